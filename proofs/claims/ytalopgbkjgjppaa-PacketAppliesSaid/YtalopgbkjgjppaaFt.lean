/- The walk of the law's fits. -/
import Derived.Test.YtalopgbkjgjppaaTo
import Derived.Test.YtalopgbkjgjppaaLawA
import Derived.Test.YtalopgbkjgjppaaEq4
namespace Go.Proofs.Ytalopgbkjgjppaa
open Go.RowKit Go.Cas

/-- Each of the packets fits where it stands. -/
def fitsAll : List Pk → Nat → Int × Int × Int × Int → Prop
  | [], _, _ => True
  | p :: ps, h, r => (fitsL p.k p.d p.l p.y.toNat h r.1 r.2.1 r.2.2.1 r.2.2.2).2.2.2 = true ∧
    fitsAll ps (h + (fitsL p.k p.d p.l p.y.toNat h r.1 r.2.1 r.2.2.1 r.2.2.2).2.1.toNat) (fitsL p.k p.d p.l p.y.toNat h r.1 r.2.1 r.2.2.1 r.2.2.2).2.2.1

theorem fitsAll_of_apply (M : Nat) : ∀ (l : List Pk) (bs : List UInt8) (r : Int × Int × Int × Int), (applyGo M l bs r).2 = 0 → fitsAll l bs.length r
  | [], _, _, _ => trivial
  | p :: ps, bs, r, h => by
    simp only [applyGo] at h
    by_cases hl : p.k = 1 ∧ p.d = 0 ∧ p.l = 0
    · rw [if_pos hl] at h
      have e : fitsL p.k p.d p.l p.y.toNat bs.length r.1 r.2.1 r.2.2.1 r.2.2.2 = (0, 1, r, true) := by unfold fitsL; rw [if_pos hl]
      by_cases hM : bs.length < M
      · rw [if_pos hM] at h
        have := fitsAll_of_apply M ps _ _ h
        simp only [List.length_append, List.length_cons, List.length_nil, Nat.zero_add] at this
        unfold fitsAll
        rw [e]
        exact ⟨rfl, this⟩
      · rw [if_neg hM] at h
        exact absurd h (by decide)
    · rw [if_neg hl] at h
      unfold fitsAll
      generalize fitsL p.k p.d p.l p.y.toNat bs.length r.1 r.2.1 r.2.2.1 r.2.2.2 = x at *
      obtain ⟨x0, x1, y, ok⟩ := x
      dsimp only at h ⊢
      cases ok with
      | false => rw [if_neg (by decide)] at h; exact absurd h (by decide)
      | true =>
        rw [if_pos rfl] at h
        by_cases hc : 1 ≤ x0 ∧ x0 ≤ (bs.length : Int) ∧ 0 ≤ x1 ∧ x1 ≤ (M : Int) - bs.length
        · rw [if_pos hc] at h
          have := fitsAll_of_apply M ps _ _ h
          rw [copyL_length] at this
          exact ⟨rfl, this⟩
        · rw [if_neg hc] at h
          exact absurd h (by decide)

theorem fits_neg (k d l y a b c e : Int) (hk : k ≠ 1) (ha : 1 ≤ a) (hb : 1 ≤ b) (hc : 1 ≤ c) (he : 1 ≤ e) : fitsL k d l y (-1) a b c e = (0, 0, (a, b, c, e), false) := by
  obtain ⟨h1, h2⟩ := back_fits k d l y (-1) a b c e hk ha hb hc he
  have h3 : (backL k d l y (-1) a b c e).2.2.2 = false := by
    cases h : (backL k d l y (-1) a b c e).2.2.2 with
    | false => rfl
    | true => have := h2 h; omega
  unfold fitsL at h1 ⊢
  rw [if_neg (by omega)] at h1 ⊢
  by_cases hq : (copiesL k d l y (-1) a b c e).2.2.2 = true
  · rw [if_pos hq] at h1
    rw [hq, h3] at h1
    cases h1
  · rw [if_neg hq]

/-- A packet that fits: what the document's Back says of it, and that the last distances stay one or more. -/
theorem fits_step (p : Pk) (h : Nat) (r : Int × Int × Int × Int) (hr : rok r) (hf : (fitsL p.k p.d p.l p.y.toNat h r.1 r.2.1 r.2.2.1 r.2.2.2).2.2.2 = true) :
    ∃ x0 : Int, ∃ x1 : Nat, ∃ y0 y1 y2 y3 : Int, fitsL p.k p.d p.l p.y.toNat h r.1 r.2.1 r.2.2.1 r.2.2.2 = (x0, (x1 : Int), (y0, y1, y2, y3), true) ∧ x1 ≤ 273 ∧ rok (y0, y1, y2, y3) ∧
      ((p.k = 1 ∧ p.d = 0 ∧ p.l = 0 ∧ x0 = 0 ∧ x1 = 1 ∧ r = (y0, y1, y2, y3)) ∨ (p.k ≠ 1 ∧ backL p.k p.d p.l p.y.toNat h r.1 r.2.1 r.2.2.1 r.2.2.2 = (x0, (x1 : Int), (y0, y1, y2, y3), true))) := by
  by_cases hk : p.k = 1
  · by_cases hp : p.d = 0 ∧ p.l = 0
    · have e : fitsL p.k p.d p.l p.y.toNat h r.1 r.2.1 r.2.2.1 r.2.2.2 = (0, 1, r, true) := by unfold fitsL; rw [if_pos ⟨hk, hp⟩]
      exact ⟨0, 1, r.1, r.2.1, r.2.2.1, r.2.2.2, e, by omega, hr, .inl ⟨hk, hp.1, hp.2, rfl, rfl, rfl⟩⟩
    · exfalso
      unfold fitsL at hf
      rw [if_neg (fun h => hp h.2), hk] at hf
      simp [copiesL] at hf
  · obtain ⟨h1, h2⟩ := back_fits p.k p.d p.l p.y.toNat h r.1 r.2.1 r.2.2.1 r.2.2.2 hk hr.1 hr.2.1 hr.2.2.1 hr.2.2.2
    obtain ⟨h3, _, _, h6, h7, h8⟩ := h2 (h1.symm.trans hf)
    rw [h3]
    generalize backL p.k p.d p.l p.y.toNat h r.1 r.2.1 r.2.2.1 r.2.2.2 = x at *
    obtain ⟨x0, x1, ⟨y0, y1, y2, y3⟩, ok⟩ := x
    dsimp only at *
    rw [h1] at hf
    subst hf
    exact ⟨x0, x1.toNat, y0, y1, y2, y3, by rw [show ((x1.toNat : Nat) : Int) = x1 from by omega], by omega, h8, .inr ⟨hk, by rw [show ((x1.toNat : Nat) : Int) = x1 from by omega]⟩⟩

set_option maxHeartbeats 4000000 in
set_option maxRecDepth 100000 in
theorem lfits_any (q1 : Option Addr) (c1 : Nat) (q2 : Option Addr) (c2 : Nat) (l : List Pk) (w : World) (hA : Pks w q1 c1 l) (hB : RPks w q2 c2 l) (hn : l.length ≤ 100000000) (hf : fitsAll l 0 (1, 1, 1, 1)) :
    Calls Try.prog 18 #[.slice q1 l.length c1, .slice q2 l.length c2] w fun z w' => z = .returned (.bool true) ∧ Same w w' := by
  go_enter Try.func18, Try.ntmps18
  go_wp2_with fail
  have hR : Blk (w.alloc (.cells (rc4 (1, 1, 1, 1)) 43)) w.heap.size (rc4 (1, 1, 1, 1)) 43 := Blk.new _ _ _
  have hS : Same w (w.alloc (.cells (rc4 (1, 1, 1, 1)) 43)) := (Keeps.refl _ _).alloc _
  generalize hRe : w.heap.size = R at hR
  go_loopw [5, 7] (fun hv i wr => ∃ k h : Nat, k ≤ l.length ∧ i = i6 k ∧ hv = i6 h ∧ h ≤ 273 * k ∧ ∃ r, Blk wr R (rc4 r) 43 ∧ rok r ∧ fitsAll (l.drop k) h r ∧ Same w wr) (fun _ i _ => l.length - (intOf i).toNat)
  case atStart => exact ⟨0, 0, Nat.zero_le _, rfl, rfl, by omega, (1, 1, 1, 1), hR, by simp [rok], hf, hS⟩
  case round =>
    obtain ⟨k, h, hk, rfl, rfl, hh, r, hr, hok, hfa, hsm⟩ := hrel
    clear hR hS hf
    by_cases hlt : k < l.length
    · obtain ⟨g, rfl⟩ := hA.ex (by omega)
      obtain ⟨g2, rfl⟩ := hB.ex (by omega)
      have hget : l[k]? = some l[k] := by simp [hlt]
      have hdrop : l.drop k = l[k] :: l.drop (k + 1) := List.drop_eq_getElem_cons hlt
      rw [hdrop] at hfa
      generalize l[k] = p at *
      unfold fitsAll at hfa
      obtain ⟨hf1, hf2⟩ := hfa
      obtain ⟨x0, x1, y0, y1, y2, y3, hx, hx1, hok2, hor⟩ := fits_step p h r hok hf1
      rw [hx] at hf2
      simp only [Int.toNat_natCast] at hf2
      have HF := hid hf2
      have HC := hid (fits_any p.k p.d p.l p.y.toNat h r.1 r.2.1 r.2.2.1 r.2.2.2)
      rw [hx] at HC
      have HBK := hid (back_any p.k p.d p.l p.y.toNat h r.1 r.2.1 r.2.2.1 r.2.2.2)
      have HC2 := hid (fits_any p.k p.d p.l p.y.toNat (-1) y0 y1 y2 y3)
      have HNEG := hid (fun hk => fits_neg p.k p.d p.l p.y.toNat y0 y1 y2 y3 hk hok2.1 hok2.2.1 hok2.2.2.1 hok2.2.2.2)
      have hat := (hA.keeps hsm (fun _ _ h => h)).at k _ hget
      have hat2 := rpks_at (hB.same hsm) k _ hget
      obtain ⟨pk_, pd, pl, py⟩ := p
      obtain ⟨r0, r1, r2, r3⟩ := r
      dsimp only at hat hat2 HC HBK HC2 HNEG hor hr
      have hgl : g < wr.heap.size := (hA.keeps hsm (fun _ _ h => h)).lt g rfl
      have hgl2 : g2 < wr.heap.size := (hB.same hsm).lt g2 rfl
      have heq : ∀ (a b c d : Int) (W : World), (Op.equalIn 10000 43 (rp a b c d) (rp a b c d)).run Try.prog W = .ok true W := fun a b c d W => run_equalIn_same4 9998 a b c d W
      have hRl := hr.lt
      clear hf1 hf2 hx hdrop
      go_upto_region 6 with fail
      go_cut [8, 9, 10, 11] (fun s8 s9 s10 s11 wx => ∃ b10 : Nat, s8 = i6 x0 ∧ s9 = i6 x1 ∧ s10 = .pointer (some ⟨b10, 0, none⟩) ∧ s11 = .bool true ∧ Blk wx b10 #[i6 y0, i6 y1, i6 y2, i6 y3] 44 ∧ wr.heap.size ≤ b10 ∧ Same wr wx)
      case first =>
        obtain ⟨hr0, hr1, hr2, hr3, hrf⟩ := hr.four
        have hrl := hr.lt
        have hrl2 : R < wr.heap.size + 1 ∧ R < wr.heap.size + 1 + 1 ∧ g < wr.heap.size + 1 := by omega
        dsimp only at hr0 hr1 hr2 hr3
        refine wp_region_held_drew (S := (fun W => Same wr W)) (by kernel_rfl) (by (try dsimp only); exact (Keeps.refl _ _).drew) (fun hHeld => ?_)
        refine wpAnyH_take (i := 0) (oi := ⟨some 28, _, _, _, _, _⟩) (v := ?v0x) rfl (by kernel_rfl) (by kernel_rfl) (by kernel_rfl) (fun _ _ _ h => h) (Or.inl ⟨by rfl, ?h0x⟩) (by assumption) ?r0x
        case h0x => intro w hSw; (try dsimp only at hSw); go_simp; (try with_reducible rfl)
        try simp only [Act.put, List.setIfInBounds_toArray, List.set_cons_zero, List.set_cons_succ]
        refine wpAnyH_take (i := 1) (oi := ⟨some 29, _, _, _, _, _⟩) (v := ?v1x) rfl (by kernel_rfl) (by kernel_rfl) (by kernel_rfl) (fun _ _ _ h => h) (Or.inl ⟨by rfl, ?h1x⟩) (by assumption) ?r1x
        case h1x => intro w hSw; (try dsimp only at hSw); go_simp; (try with_reducible rfl)
        try simp only [Act.put, List.setIfInBounds_toArray, List.set_cons_zero, List.set_cons_succ]
        refine wpAnyH_take (i := 2) (oi := ⟨some 30, _, _, _, _, _⟩) (v := ?v2x) rfl (by kernel_rfl) (by kernel_rfl) (by kernel_rfl) (fun _ _ _ h => h) (Or.inl ⟨by rfl, ?h2x⟩) (by assumption) ?r2x
        case h2x => intro w hSw; (try dsimp only at hSw); go_simp; (try with_reducible rfl)
        try simp only [Act.put, List.setIfInBounds_toArray, List.set_cons_zero, List.set_cons_succ]
        refine wpAnyH_take (i := 3) (oi := ⟨some 31, _, _, _, _, _⟩) (v := ?v3x) rfl (by kernel_rfl) (by kernel_rfl) (by kernel_rfl) (fun _ _ _ h => h) (Or.inl ⟨by rfl, ?h3x⟩) (by assumption) ?r3x
        case h3x => intro w hSw; (try dsimp only at hSw); have q0 := (Keeps.cell hSw (p := ⟨g, k * 4, none⟩) (hgl) (fun h => h)).trans (hat.1); have q1 := (Keeps.cell hSw (p := ⟨g, k * 4 + 1, none⟩) (hgl) (fun h => h)).trans (hat.2.1); have q2 := (Keeps.cell hSw (p := ⟨g, k * 4 + 2, none⟩) (hgl) (fun h => h)).trans (hat.2.2.1); have q3 := (Keeps.cell hSw (p := ⟨g, k * 4 + 3, none⟩) (hgl) (fun h => h)).trans (hat.2.2.2); go_simp; (try with_reducible rfl)
        try simp only [Act.put, List.setIfInBounds_toArray, List.set_cons_zero, List.set_cons_succ]
        refine wpAnyH_take (i := 4) (oi := ⟨some 32, _, _, _, _, _⟩) (v := ?v4x) rfl (by kernel_rfl) (by kernel_rfl) (by kernel_rfl) (fun _ _ _ h => h) (Or.inl ⟨by rfl, ?h4x⟩) (by assumption) ?r4x
        case h4x => intro w hSw; (try dsimp only at hSw); go_simp; (try with_reducible rfl)
        try simp only [Act.put, List.setIfInBounds_toArray, List.set_cons_zero, List.set_cons_succ]
        refine wpAnyH_take (i := 5) (oi := ⟨some 33, _, _, _, _, _⟩) (v := ?v5x) rfl (by kernel_rfl) (by kernel_rfl) (by kernel_rfl) (fun _ _ _ h => h) (Or.inl ⟨by rfl, ?h5x⟩) (by assumption) ?r5x
        case h5x => intro w hSw; (try dsimp only at hSw); have q0 := (Keeps.cell hSw (p := ⟨R, 0, none⟩) (hrl) (fun h => h)).trans (hr0); have q1 := (Keeps.cell hSw (p := ⟨R, 1, none⟩) (hrl) (fun h => h)).trans (hr1); have q2 := (Keeps.cell hSw (p := ⟨R, 2, none⟩) (hrl) (fun h => h)).trans (hr2); have q3 := (Keeps.cell hSw (p := ⟨R, 3, none⟩) (hrl) (fun h => h)).trans (hr3); go_simp; (try with_reducible rfl)
        try simp only [Act.put, List.setIfInBounds_toArray, List.set_cons_zero, List.set_cons_succ]
        refine wpAnyH_ready (rs := [6, 12]) (by kernel_rfl) (by simp) ?_
        refine AllReadyH.cons (o := ⟨some 34, _, _, _, _, _⟩) rfl (fun K hK => ?_) (AllReadyH.cons (o := ⟨some 10, _, _, _, _, _⟩) rfl (fun K hK => ?_) AllReadyH.nil)
        · go_simp
          (go_at_call 39; refine (HC.out _).mono ?_; rintro z w4 ⟨rfl, hs4⟩; dsimp only)
          refine hK.out _ _ (by (try dsimp only); repeat (first | exact Keeps.refl _ _ | refine Keeps.drew ?_ | refine Keeps.drewN ?_ _ | refine Keeps.alloc ?_ _ | refine Keeps.setCell ?_ (by simp; try omega) _ | exact Hid.out (by assumption) | refine Keeps.trans ?_ (by assumption))) (fun hHeld => ?_)
          clear hK K
          try simp only [Act.put, List.setIfInBounds_toArray, List.set_cons_zero, List.set_cons_succ]
          have hz4 := hs4.size
          simp at hz4
          refine wpAnyH_take (i := 7) (oi := ⟨some 27, _, _, _, _, _⟩) (v := ?v7xa) rfl (by kernel_rfl) (by kernel_rfl) (by kernel_rfl) (fun _ _ _ h => h) (Or.inl ⟨by rfl, ?h7xa⟩) (by assumption) ?r7xa
          case h7xa => intro w hSw; (try dsimp only at hSw); go_simp; (try with_reducible rfl)
          try simp only [Act.put, List.setIfInBounds_toArray, List.set_cons_zero, List.set_cons_succ]
          refine wpAnyH_take (i := 8) (oi := ⟨some 35, _, _, _, _, _⟩) (v := ?v8xa) rfl (by kernel_rfl) (by kernel_rfl) (by kernel_rfl) (fun _ _ _ h => h) (Or.inl ⟨by rfl, ?h8xa⟩) (by assumption) ?r8xa
          case h8xa => intro w hSw; (try dsimp only at hSw); go_simp; (try with_reducible rfl)
          try simp only [Act.put, List.setIfInBounds_toArray, List.set_cons_zero, List.set_cons_succ]
          refine wpAnyH_take (i := 9) (oi := ⟨some 36, _, _, _, _, _⟩) (v := ?v9xa) rfl (by kernel_rfl) (by kernel_rfl) (by kernel_rfl) (fun _ _ _ h => h) (Or.inl ⟨by rfl, ?h9xa⟩) (by assumption) ?r9xa
          case h9xa => intro w hSw; (try dsimp only at hSw); go_simp; (try with_reducible rfl)
          try simp only [Act.put, List.setIfInBounds_toArray, List.set_cons_zero, List.set_cons_succ]
          refine wpAnyH_take (i := 10) (oi := ⟨some 37, _, _, _, _, _⟩) (v := ?v10xa) rfl (by kernel_rfl) (by kernel_rfl) (by kernel_rfl) (fun _ _ _ h => h) (Or.inl ⟨by rfl, ?h10xa⟩) (by assumption) ?r10xa
          case h10xa => intro w hSw; (try dsimp only at hSw); go_simp; (try with_reducible rfl)
          try simp only [Act.put, List.setIfInBounds_toArray, List.set_cons_zero, List.set_cons_succ]
          refine wpAnyH_take (i := 11) (oi := ⟨some 38, _, _, _, _, _⟩) (v := ?v11xa) rfl (by kernel_rfl) (by kernel_rfl) (by kernel_rfl) (fun _ _ _ h => h) (Or.inl ⟨by rfl, ?h11xa⟩) (by assumption) ?r11xa
          case h11xa => intro w hSw; (try dsimp only at hSw); go_simp; (try with_reducible rfl)
          try simp only [Act.put, List.setIfInBounds_toArray, List.set_cons_zero, List.set_cons_succ]
          refine wpAnyH_ready (rs := [12]) (by kernel_rfl) (by simp) ?_
          refine AllReadyH.cons (o := ⟨some 10, _, _, _, _, _⟩) rfl (fun K hK => ?_) AllReadyH.nil
          go_simp
          refine hK.out _ _ (by (try dsimp only); repeat (first | exact Keeps.refl _ _ | refine Keeps.drew ?_ | refine Keeps.drewN ?_ _ | refine Keeps.alloc ?_ _ | refine Keeps.setCell ?_ (by simp; try omega) _ | exact Hid.out (by assumption) | refine Keeps.trans ?_ (by assumption))) (fun hHeld => ?_)
          clear hK K
          try simp only [Act.put, List.setIfInBounds_toArray, List.set_cons_zero, List.set_cons_succ]
          refine wpAnyH_take (i := 13) (oi := ⟨some 8, _, _, _, _, _⟩) (v := ?v13xa) rfl (by kernel_rfl) (by kernel_rfl) (by kernel_rfl) (fun _ _ _ h => h) (Or.inl ⟨by rfl, ?h13xa⟩) (by assumption) ?r13xa
          case h13xa => intro w hSw; (try dsimp only at hSw); go_simp; (try with_reducible rfl)
          try simp only [Act.put, List.setIfInBounds_toArray, List.set_cons_zero, List.set_cons_succ]
          refine wpAnyH_take (i := 14) (oi := ⟨some 9, _, _, _, _, _⟩) (v := ?v14xa) rfl (by kernel_rfl) (by kernel_rfl) (by kernel_rfl) (fun _ _ _ h => h) (Or.inl ⟨by rfl, ?h14xa⟩) (by assumption) ?r14xa
          case h14xa => intro w hSw; (try dsimp only at hSw); go_simp; (try with_reducible rfl)
          try simp only [Act.put, List.setIfInBounds_toArray, List.set_cons_zero, List.set_cons_succ]
          refine wpAnyH_ready (rs := [15]) (by kernel_rfl) (by simp) ?_
          refine AllReadyH.cons (o := ⟨none, _, _, _, _, _⟩) rfl (fun K hK => ?_) AllReadyH.nil
          go_simp
          refine hK.out _ _ (by (try dsimp only); repeat (first | exact Keeps.refl _ _ | refine Keeps.drew ?_ | refine Keeps.drewN ?_ _ | refine Keeps.alloc ?_ _ | refine Keeps.setCell ?_ (by simp; try omega) _ | exact Hid.out (by assumption) | refine Keeps.trans ?_ (by assumption))) (fun hHeld => ?_)
          clear hK K
          try simp only [Act.put, List.setIfInBounds_toArray, List.set_cons_zero, List.set_cons_succ]
          refine wpAnyH_take (i := 16) (oi := ⟨some 11, _, _, _, _, _⟩) (v := ?v16xa) rfl (by kernel_rfl) (by kernel_rfl) (by kernel_rfl) (fun _ _ _ h => h) (Or.inl ⟨by rfl, ?h16xa⟩) (by assumption) ?r16xa
          case h16xa => intro w hSw; (try dsimp only at hSw); go_simp; (try with_reducible rfl)
          try simp only [Act.put, List.setIfInBounds_toArray, List.set_cons_zero, List.set_cons_succ]
          refine wpAnyH_done (by kernel_rfl) ?_ _
          go_wp2_with fail
          go_meet
          refine ⟨_, rfl, rfl, rfl, rfl, Blk.new _ _ _, ?_, ?_⟩
          · first | omega | (simp; omega)
          · repeat (first | exact Keeps.refl _ _ | refine Keeps.drew ?_ | refine Keeps.drewN ?_ _ | refine Keeps.alloc ?_ _ | refine Keeps.setCell ?_ (by simp; try omega) _ | exact Hid.out (by assumption) | refine Keeps.trans ?_ (by assumption))
        · go_simp
          refine hK.out _ _ (by (try dsimp only); repeat (first | exact Keeps.refl _ _ | refine Keeps.drew ?_ | refine Keeps.drewN ?_ _ | refine Keeps.alloc ?_ _ | refine Keeps.setCell ?_ (by simp; try omega) _ | exact Hid.out (by assumption) | refine Keeps.trans ?_ (by assumption))) (fun hHeld => ?_)
          clear hK K
          try simp only [Act.put, List.setIfInBounds_toArray, List.set_cons_zero, List.set_cons_succ]
          refine wpAnyH_ready (rs := [6]) (by kernel_rfl) (by simp) ?_
          refine AllReadyH.cons (o := ⟨some 34, _, _, _, _, _⟩) rfl (fun K hK => ?_) AllReadyH.nil
          go_simp
          (go_at_call 39; refine (HC.out _).mono ?_; rintro z w4 ⟨rfl, hs4⟩; dsimp only)
          refine hK.out _ _ (by (try dsimp only); repeat (first | exact Keeps.refl _ _ | refine Keeps.drew ?_ | refine Keeps.drewN ?_ _ | refine Keeps.alloc ?_ _ | refine Keeps.setCell ?_ (by simp; try omega) _ | exact Hid.out (by assumption) | refine Keeps.trans ?_ (by assumption))) (fun hHeld => ?_)
          clear hK K
          try simp only [Act.put, List.setIfInBounds_toArray, List.set_cons_zero, List.set_cons_succ]
          have hzB := Blk.keeps (t := 44) (Blk.drew (Blk.new_at (n := wr.heap.size) (cs := #[i6 0, i6 0, i6 0, i6 0]) (by simp))) hs4 (fun h => h); have hzl := hzB.lt; have hzb := hzB.four
          refine wpAnyH_take (i := 7) (oi := ⟨some 27, _, _, _, _, _⟩) (v := ?v7xb) rfl (by kernel_rfl) (by kernel_rfl) (by kernel_rfl) (fun _ _ _ h => h) (Or.inl ⟨by rfl, ?h7xb⟩) (by assumption) ?r7xb
          case h7xb => intro w hSw; (try dsimp only at hSw); go_simp; (try with_reducible rfl)
          try simp only [Act.put, List.setIfInBounds_toArray, List.set_cons_zero, List.set_cons_succ]
          refine wpAnyH_take (i := 8) (oi := ⟨some 35, _, _, _, _, _⟩) (v := ?v8xb) rfl (by kernel_rfl) (by kernel_rfl) (by kernel_rfl) (fun _ _ _ h => h) (Or.inl ⟨by rfl, ?h8xb⟩) (by assumption) ?r8xb
          case h8xb => intro w hSw; (try dsimp only at hSw); go_simp; (try with_reducible rfl)
          try simp only [Act.put, List.setIfInBounds_toArray, List.set_cons_zero, List.set_cons_succ]
          refine wpAnyH_take (i := 9) (oi := ⟨some 36, _, _, _, _, _⟩) (v := ?v9xb) rfl (by kernel_rfl) (by kernel_rfl) (by kernel_rfl) (fun _ _ _ h => h) (Or.inl ⟨by rfl, ?h9xb⟩) (by assumption) ?r9xb
          case h9xb => intro w hSw; (try dsimp only at hSw); go_simp; (try with_reducible rfl)
          try simp only [Act.put, List.setIfInBounds_toArray, List.set_cons_zero, List.set_cons_succ]
          refine wpAnyH_take (i := 10) (oi := ⟨some 37, _, _, _, _, _⟩) (v := ?v10xb) rfl (by kernel_rfl) (by kernel_rfl) (by kernel_rfl) (fun _ _ _ h => h) (Or.inl ⟨by rfl, ?h10xb⟩) (by assumption) ?r10xb
          case h10xb => intro w hSw; (try dsimp only at hSw); go_simp; (try with_reducible rfl)
          try simp only [Act.put, List.setIfInBounds_toArray, List.set_cons_zero, List.set_cons_succ]
          refine wpAnyH_take (i := 11) (oi := ⟨some 38, _, _, _, _, _⟩) (v := ?v11xb) rfl (by kernel_rfl) (by kernel_rfl) (by kernel_rfl) (fun _ _ _ h => h) (Or.inl ⟨by rfl, ?h11xb⟩) (by assumption) ?r11xb
          case h11xb => intro w hSw; (try dsimp only at hSw); go_simp; (try with_reducible rfl)
          try simp only [Act.put, List.setIfInBounds_toArray, List.set_cons_zero, List.set_cons_succ]
          refine wpAnyH_take (i := 13) (oi := ⟨some 8, _, _, _, _, _⟩) (v := ?v13xb) rfl (by kernel_rfl) (by kernel_rfl) (by kernel_rfl) (fun _ _ _ h => h) (Or.inl ⟨by rfl, ?h13xb⟩) (by assumption) ?r13xb
          case h13xb => intro w hSw; (try dsimp only at hSw); go_simp; (try with_reducible rfl)
          try simp only [Act.put, List.setIfInBounds_toArray, List.set_cons_zero, List.set_cons_succ]
          refine wpAnyH_take (i := 14) (oi := ⟨some 9, _, _, _, _, _⟩) (v := ?v14xb) rfl (by kernel_rfl) (by kernel_rfl) (by kernel_rfl) (fun _ _ _ h => h) (Or.inl ⟨by rfl, ?h14xb⟩) (by assumption) ?r14xb
          case h14xb => intro w hSw; (try dsimp only at hSw); go_simp; (try with_reducible rfl)
          try simp only [Act.put, List.setIfInBounds_toArray, List.set_cons_zero, List.set_cons_succ]
          refine wpAnyH_ready (rs := [15]) (by kernel_rfl) (by simp) ?_
          refine AllReadyH.cons (o := ⟨none, _, _, _, _, _⟩) rfl (fun K hK => ?_) AllReadyH.nil
          go_simp
          refine hK.out _ _ (by (try dsimp only); repeat (first | exact Keeps.refl _ _ | refine Keeps.drew ?_ | refine Keeps.drewN ?_ _ | refine Keeps.alloc ?_ _ | refine Keeps.setCell ?_ (by simp; try omega) _ | exact Hid.out (by assumption) | refine Keeps.trans ?_ (by assumption))) (fun hHeld => ?_)
          clear hK K
          try simp only [Act.put, List.setIfInBounds_toArray, List.set_cons_zero, List.set_cons_succ]
          refine wpAnyH_take (i := 16) (oi := ⟨some 11, _, _, _, _, _⟩) (v := ?v16xb) rfl (by kernel_rfl) (by kernel_rfl) (by kernel_rfl) (fun _ _ _ h => h) (Or.inl ⟨by rfl, ?h16xb⟩) (by assumption) ?r16xb
          case h16xb => intro w hSw; (try dsimp only at hSw); go_simp; (try with_reducible rfl)
          try simp only [Act.put, List.setIfInBounds_toArray, List.set_cons_zero, List.set_cons_succ]
          refine wpAnyH_done (by kernel_rfl) ?_ _
          go_wp2_with fail
          go_meet
          refine ⟨_, rfl, rfl, rfl, rfl, hzB.set4 _ _ _ _, ?_, ?_⟩
          · first | omega | (simp; omega)
          · repeat (first | exact Keeps.refl _ _ | refine Keeps.drew ?_ | refine Keeps.drewN ?_ _ | refine Keeps.alloc ?_ _ | refine Keeps.setCell ?_ (by simp; try omega) _ | exact Hid.out (by assumption) | refine Keeps.trans ?_ (by assumption))
      case rest =>
        obtain ⟨b10, rfl, rfl, rfl, rfl, hb10, hge10, hsm2⟩ := hcut
        replace hr := hr.keeps hsm2 (fun h => h)
        have hrl := hr.lt
        replace hsm := hsm.trans hsm2
        replace hat := (hA.keeps hsm (fun _ _ h => h)).at k _ hget
        replace hat2 := rpks_at (hB.same hsm) k _ hget
        replace hgl : g < wc.heap.size := (hA.keeps hsm (fun _ _ h => h)).lt g rfl
        replace hgl2 : g2 < wc.heap.size := (hB.same hsm).lt g2 rfl
        have l10 := hb10.lt
        have hRw : R < wr.heap.size := hRl
        clear hsm2
        obtain ⟨hr0, hr1, hr2, hr3, hrf⟩ := hr.four
        dsimp only at hr0 hr1 hr2 hr3 hat hat2
        go_upto_region 7 with fail
        go_cut [12, 13, 14, 15] (fun s12 s13 s14 s15 wx => ∃ b14 : Nat, s12 = i6 0 ∧ s13 = i6 1 ∧ s14 = .pointer (some ⟨b14, 0, none⟩) ∧ s15 = .bool true ∧ Blk wx b14 #[i6 r0, i6 r1, i6 r2, i6 r3] 43 ∧ wc.heap.size ≤ b14 ∧ Same wc wx)
        case first =>
          go_region
          all_goals
            go_wp2_with fail
            go_meet
            refine ⟨_, rfl, rfl, rfl, rfl, ?_, ?_, ?_⟩
            · first | exact Blk.new _ _ _ | exact Blk.new_at (by simp) | exact (Blk.new_at (by simp)).drew
            · first | omega | (simp; omega)
            · repeat (first | exact Keeps.refl _ _ | refine Keeps.drew ?_ | refine Keeps.drewN ?_ _ | refine Keeps.alloc ?_ _ | refine Keeps.setCell ?_ (by simp; try omega) _ | exact Hid.out (by assumption) | refine Keeps.trans ?_ (by assumption))
        case rest =>
          obtain ⟨b14, rfl, rfl, rfl, rfl, hb14, hge14, hsm2⟩ := hcut
          have n14 : g ≠ b14 ∧ g2 ≠ b14 ∧ R ≠ b14 ∧ b10 ≠ b14 ∧ R ≠ b10 ∧ w.heap.size ≤ b14 := by have := hsm.size; omega
          replace hr := hr.keeps hsm2 (fun h => h)
          replace hrl := hr.lt
          replace hsm := hsm.trans hsm2
          replace hb10 := hb10.keeps hsm2 (fun h => h)
          replace hat := (hA.keeps hsm (fun _ _ h => h)).at k _ hget
          replace hat2 := rpks_at (hB.same hsm) k _ hget
          have l14 := hb14.lt
          have s2 := hsm2.size
          replace hgl := (hA.keeps hsm (fun _ _ h => h)).lt g rfl
          replace hgl2 := (hB.same hsm).lt g2 rfl
          clear hsm2 hr0 hr1 hr2 hr3 hrf
          obtain ⟨hr0, hr1, hr2, hr3, hrf⟩ := hr.four
          dsimp only at hr0 hr1 hr2 hr3 hat hat2
          go_upto_if 45 with fail
          go_cut [12, 13, 15] (fun s12 s13 s15 wx => s12 = i6 x0 ∧ s13 = i6 x1 ∧ s15 = .bool true ∧ Blk wx b14 #[i6 y0, i6 y1, i6 y2, i6 y3] 43 ∧ Keeps (fun b => b = b14) wc wx)
          case first =>
            rcases hor with ⟨rfl, rfl, rfl, rfl, rfl, hy⟩ | ⟨hk1, hbk⟩
            · simp only [Prod.mk.injEq] at hy
              obtain ⟨rfl, rfl, rfl, rfl⟩ := hy
              go_wp2_with fail
              go_meet
              exact ⟨rfl, rfl, rfl, hb14, Keeps.refl _ _⟩
            · have hk1' : (pk_ != 1) = true := by simpa using hk1
              rw [hbk] at HBK
              go_upto_region 9 with fail
              refine wp_region_held_drew (S := (fun V => Keeps (fun b => b = b14) wc V)) (by kernel_rfl) (by (try dsimp only); exact (Keeps.refl _ _).drew) (fun hHeld => ?_)
              refine wpAnyH_take (i := 0) (oi := ⟨some 47, _, _, _, _, _⟩) (v := ?v0y) rfl (by kernel_rfl) (by kernel_rfl) (by kernel_rfl) (fun _ _ _ h => h) (Or.inl ⟨by rfl, ?h0y⟩) (by assumption) ?r0y
              case h0y => intro w hSw; (try dsimp only at hSw); go_simp; (try with_reducible rfl)
              try simp only [Act.put, List.setIfInBounds_toArray, List.set_cons_zero, List.set_cons_succ]
              refine wpAnyH_take (i := 1) (oi := ⟨some 48, _, _, _, _, _⟩) (v := ?v1y) rfl (by kernel_rfl) (by kernel_rfl) (by kernel_rfl) (fun _ _ _ h => h) (Or.inl ⟨by rfl, ?h1y⟩) (by assumption) ?r1y
              case h1y => intro w hSw; (try dsimp only at hSw); go_simp; (try with_reducible rfl)
              try simp only [Act.put, List.setIfInBounds_toArray, List.set_cons_zero, List.set_cons_succ]
              refine wpAnyH_take (i := 2) (oi := ⟨some 49, _, _, _, _, _⟩) (v := ?v2y) rfl (by kernel_rfl) (by kernel_rfl) (by kernel_rfl) (fun _ _ _ h => h) (Or.inl ⟨by rfl, ?h2y⟩) (by assumption) ?r2y
              case h2y => intro w hSw; (try dsimp only at hSw); go_simp; (try with_reducible rfl)
              try simp only [Act.put, List.setIfInBounds_toArray, List.set_cons_zero, List.set_cons_succ]
              refine wpAnyH_take (i := 3) (oi := ⟨some 50, _, _, _, _, _⟩) (v := ?v3y) rfl (by kernel_rfl) (by kernel_rfl) (by kernel_rfl) (fun _ _ _ h => h) (Or.inl ⟨by rfl, ?h3y⟩) (by assumption) ?r3y
              case h3y => intro w hSw; (try dsimp only at hSw); have q0 := (Keeps.cell hSw (p := ⟨g2, k * 4, none⟩) (hgl2) n14.2.1).trans (hat2.1); have q1 := (Keeps.cell hSw (p := ⟨g2, k * 4 + 1, none⟩) (hgl2) n14.2.1).trans (hat2.2.1); have q2 := (Keeps.cell hSw (p := ⟨g2, k * 4 + 2, none⟩) (hgl2) n14.2.1).trans (hat2.2.2.1); have q3 := (Keeps.cell hSw (p := ⟨g2, k * 4 + 3, none⟩) (hgl2) n14.2.1).trans (hat2.2.2.2); go_simp; (try with_reducible rfl)
              try simp only [Act.put, List.setIfInBounds_toArray, List.set_cons_zero, List.set_cons_succ]
              refine wpAnyH_take (i := 4) (oi := ⟨some 51, _, _, _, _, _⟩) (v := ?v4y) rfl (by kernel_rfl) (by kernel_rfl) (by kernel_rfl) (fun _ _ _ h => h) (Or.inl ⟨by rfl, ?h4y⟩) (by assumption) ?r4y
              case h4y => intro w hSw; (try dsimp only at hSw); go_simp; (try with_reducible rfl)
              try simp only [Act.put, List.setIfInBounds_toArray, List.set_cons_zero, List.set_cons_succ]
              refine wpAnyH_take (i := 5) (oi := ⟨some 52, _, _, _, _, _⟩) (v := ?v5y) rfl (by kernel_rfl) (by kernel_rfl) (by kernel_rfl) (fun _ _ _ h => h) (Or.inl ⟨by rfl, ?h5y⟩) (by assumption) ?r5y
              case h5y => intro w hSw; (try dsimp only at hSw); have q0 := (Keeps.cell hSw (p := ⟨R, 0, none⟩) (hrl) n14.2.2.1).trans (hr0); have q1 := (Keeps.cell hSw (p := ⟨R, 1, none⟩) (hrl) n14.2.2.1).trans (hr1); have q2 := (Keeps.cell hSw (p := ⟨R, 2, none⟩) (hrl) n14.2.2.1).trans (hr2); have q3 := (Keeps.cell hSw (p := ⟨R, 3, none⟩) (hrl) n14.2.2.1).trans (hr3); go_simp; (try with_reducible rfl)
              try simp only [Act.put, List.setIfInBounds_toArray, List.set_cons_zero, List.set_cons_succ]
              refine wpAnyH_ready (rs := [6]) (by kernel_rfl) (by simp) ?_
              refine AllReadyH.cons (o := ⟨some 53, _, _, _, _, _⟩) rfl (fun K hK => ?_) AllReadyH.nil
              go_simp
              (go_at_call 43; refine (HBK.out _).mono ?_; rintro z w4 ⟨rfl, hs4⟩; have hB4 := Blk.keeps (hb14.drew) hs4 (fun h => h); have hb4 := hB4.four; dsimp only)
              refine hK.out _ _ (by (try dsimp only); exact ((Keeps.refl (fun b => b = b14) wc).drew).trans (hs4.mono fun _ _ h => h.elim)) (fun hHeld => ?_)
              clear hK K
              try simp only [Act.put, List.setIfInBounds_toArray, List.set_cons_zero, List.set_cons_succ]
              refine wpAnyH_take (i := 7) (oi := ⟨some 46, _, _, _, _, _⟩) (v := ?v7y) rfl (by kernel_rfl) (by kernel_rfl) (by kernel_rfl) (fun _ _ _ h => h) (Or.inl ⟨by rfl, ?h7y⟩) (by assumption) ?r7y
              case h7y => intro w hSw; (try dsimp only at hSw); go_simp; (try with_reducible rfl)
              try simp only [Act.put, List.setIfInBounds_toArray, List.set_cons_zero, List.set_cons_succ]
              refine wpAnyH_take (i := 8) (oi := ⟨some 54, _, _, _, _, _⟩) (v := ?v8y) rfl (by kernel_rfl) (by kernel_rfl) (by kernel_rfl) (fun _ _ _ h => h) (Or.inl ⟨by rfl, ?h8y⟩) (by assumption) ?r8y
              case h8y => intro w hSw; (try dsimp only at hSw); go_simp; (try with_reducible rfl)
              try simp only [Act.put, List.setIfInBounds_toArray, List.set_cons_zero, List.set_cons_succ]
              refine wpAnyH_take (i := 9) (oi := ⟨some 55, _, _, _, _, _⟩) (v := ?v9y) rfl (by kernel_rfl) (by kernel_rfl) (by kernel_rfl) (fun _ _ _ h => h) (Or.inl ⟨by rfl, ?h9y⟩) (by assumption) ?r9y
              case h9y => intro w hSw; (try dsimp only at hSw); go_simp; (try with_reducible rfl)
              try simp only [Act.put, List.setIfInBounds_toArray, List.set_cons_zero, List.set_cons_succ]
              refine wpAnyH_take (i := 10) (oi := ⟨some 56, _, _, _, _, _⟩) (v := ?v10y) rfl (by kernel_rfl) (by kernel_rfl) (by kernel_rfl) (fun _ _ _ h => h) (Or.inl ⟨by rfl, ?h10y⟩) (by assumption) ?r10y
              case h10y => intro w hSw; (try dsimp only at hSw); go_simp; (try with_reducible rfl)
              try simp only [Act.put, List.setIfInBounds_toArray, List.set_cons_zero, List.set_cons_succ]
              refine wpAnyH_take (i := 11) (oi := ⟨some 57, _, _, _, _, _⟩) (v := ?v11y) rfl (by kernel_rfl) (by kernel_rfl) (by kernel_rfl) (fun _ _ _ h => h) (Or.inl ⟨by rfl, ?h11y⟩) (by assumption) ?r11y
              case h11y => intro w hSw; (try dsimp only at hSw); go_simp; (try with_reducible rfl)
              try simp only [Act.put, List.setIfInBounds_toArray, List.set_cons_zero, List.set_cons_succ]
              refine wpAnyH_take (i := 12) (oi := ⟨some 12, _, _, _, _, _⟩) (v := ?v12y) rfl (by kernel_rfl) (by kernel_rfl) (by kernel_rfl) (fun _ _ _ h => h) (Or.inl ⟨by rfl, ?h12y⟩) (by assumption) ?r12y
              case h12y => intro w hSw; (try dsimp only at hSw); go_simp; (try with_reducible rfl)
              try simp only [Act.put, List.setIfInBounds_toArray, List.set_cons_zero, List.set_cons_succ]
              refine wpAnyH_take (i := 13) (oi := ⟨some 13, _, _, _, _, _⟩) (v := ?v13y) rfl (by kernel_rfl) (by kernel_rfl) (by kernel_rfl) (fun _ _ _ h => h) (Or.inl ⟨by rfl, ?h13y⟩) (by assumption) ?r13y
              case h13y => intro w hSw; (try dsimp only at hSw); go_simp; (try with_reducible rfl)
              try simp only [Act.put, List.setIfInBounds_toArray, List.set_cons_zero, List.set_cons_succ]
              refine wpAnyH_ready (rs := [14]) (by kernel_rfl) (by simp) ?_
              refine AllReadyH.cons (o := ⟨none, _, _, _, _, _⟩) rfl (fun K hK => ?_) AllReadyH.nil
              go_simp
              have hK9 := (((Keeps.refl (fun b => b = b14) wc).drew).trans (hs4.mono fun _ _ h => h.elim)).trans (Keeps.set4 w4 b14 (i6 y0) (i6 y1) (i6 y2) (i6 y3))
              refine hK.out _ _ (by (try dsimp only); exact hK9) (fun hHeld => ?_)
              clear hK K
              try simp only [Act.put, List.setIfInBounds_toArray, List.set_cons_zero, List.set_cons_succ]
              refine wpAnyH_take (i := 15) (oi := ⟨some 15, _, _, _, _, _⟩) (v := ?v15y) rfl (by kernel_rfl) (by kernel_rfl) (by kernel_rfl) (fun _ _ _ h => h) (Or.inl ⟨by rfl, ?h15y⟩) (by assumption) ?r15y
              case h15y => intro w hSw; (try dsimp only at hSw); go_simp; (try with_reducible rfl)
              try simp only [Act.put, List.setIfInBounds_toArray, List.set_cons_zero, List.set_cons_succ]
              refine wpAnyH_done (by kernel_rfl) ?_ _
              go_wp2_with fail
              go_meet
              exact ⟨rfl, rfl, rfl, hB4.set4 _ _ _ _, hK9⟩
          case rest =>
            obtain ⟨rfl, rfl, rfl, hb14', hK⟩ := hcut
            replace hr := hr.keeps hK (by omega)
            replace hrl := hr.lt
            replace hsm := hsm.trans' hK fun b hb e => by omega
            replace hb10 := hb10.keeps hK (by omega)
            replace hat := (hA.keeps hsm (fun _ _ h => h)).at k _ hget
            replace hat2 := rpks_at (hB.same hsm) k _ hget
            have f10 := hb10.four
            have f14 := hb14'.four
            have fR := hr.four
            have s3 := hK.size
            clear hK hb14 hr0 hr1 hr2 hr3 hrf hat
            dsimp only at hat2 fR
            go_upto_region 13 with fail
            go_cut [5] (fun s5 wx => s5 = i6 ((h + x1 : Nat) : Int) ∧ Blk wx R #[i6 y0, i6 y1, i6 y2, i6 y3] 43 ∧ Keeps (fun b => b = R) wc wx)
            case first =>
              go_wp2_with fail
              go_meet
              exact ⟨by go_num, hr.set4 _ _ _ _, Keeps.set4 _ _ _ _ _ _⟩
            case rest =>
              obtain ⟨rfl, hr', hK⟩ := hcut
              have hge2 : w.heap.size ≤ R := by omega
              replace hsm := hsm.trans' hK fun b hb e => by omega
              replace hat2 := rpks_at (hB.same hsm) k _ hget
              have hat := (hA.keeps hsm (fun _ _ h => h)).at k _ hget
              replace hgl := (hA.keeps hsm (fun _ _ h => h)).lt g rfl
              replace hgl2 := (hB.same hsm).lt g2 rfl
              replace hrl := hr'.lt
              clear hK hr hb10 f10 f14 fR hb14'
              obtain ⟨hr0, hr1, hr2, hr3, hrf⟩ := hr'.four
              dsimp only at hat hat2
              generalize fitsL pk_ pd pl py.toNat (-1) y0 y1 y2 y3 = x at HC2 HNEG
              obtain ⟨z0, z1, ⟨z2, z3, z4, z5⟩, nok⟩ := x
              dsimp only at HC2
              go_upto_region 14 with fail
              go_cut [18, 19] (fun s18 s19 wx => ∃ b18 : Nat, s18 = .pointer (some ⟨b18, 0, none⟩) ∧ s19 = .bool nok ∧ Blk wx b18 #[i6 z2, i6 z3, i6 z4, i6 z5] 44 ∧ wc.heap.size ≤ b18 ∧ Same wc wx)
              case first =>
                refine wp_region_held_drew (S := (fun W => Same wc W)) (by kernel_rfl) (by (try dsimp only); exact (Keeps.refl _ _).drew) (fun hHeld => ?_)
                refine wpAnyH_take (i := 0) (oi := ⟨some 81, _, _, _, _, _⟩) (v := ?v0v) rfl (by kernel_rfl) (by kernel_rfl) (by kernel_rfl) (fun _ _ _ h => h) (Or.inl ⟨by rfl, ?h0v⟩) (by assumption) ?r0v
                case h0v => intro w hSw; (try dsimp only at hSw); go_simp; (try with_reducible rfl)
                try simp only [Act.put, List.setIfInBounds_toArray, List.set_cons_zero, List.set_cons_succ]
                refine wpAnyH_take (i := 1) (oi := ⟨some 82, _, _, _, _, _⟩) (v := ?v1v) rfl (by kernel_rfl) (by kernel_rfl) (by kernel_rfl) (fun _ _ _ h => h) (Or.inl ⟨by rfl, ?h1v⟩) (by assumption) ?r1v
                case h1v => intro w hSw; (try dsimp only at hSw); go_simp; (try with_reducible rfl)
                try simp only [Act.put, List.setIfInBounds_toArray, List.set_cons_zero, List.set_cons_succ]
                refine wpAnyH_take (i := 2) (oi := ⟨some 83, _, _, _, _, _⟩) (v := ?v2v) rfl (by kernel_rfl) (by kernel_rfl) (by kernel_rfl) (fun _ _ _ h => h) (Or.inl ⟨by rfl, ?h2v⟩) (by assumption) ?r2v
                case h2v => intro w hSw; (try dsimp only at hSw); go_simp; (try with_reducible rfl)
                try simp only [Act.put, List.setIfInBounds_toArray, List.set_cons_zero, List.set_cons_succ]
                refine wpAnyH_take (i := 3) (oi := ⟨some 84, _, _, _, _, _⟩) (v := ?v3v) rfl (by kernel_rfl) (by kernel_rfl) (by kernel_rfl) (fun _ _ _ h => h) (Or.inl ⟨by rfl, ?h3v⟩) (by assumption) ?r3v
                case h3v => intro w hSw; (try dsimp only at hSw); have q0 := (Keeps.cell hSw (p := ⟨g, k * 4, none⟩) (hgl) (fun h => h)).trans (hat.1); have q1 := (Keeps.cell hSw (p := ⟨g, k * 4 + 1, none⟩) (hgl) (fun h => h)).trans (hat.2.1); have q2 := (Keeps.cell hSw (p := ⟨g, k * 4 + 2, none⟩) (hgl) (fun h => h)).trans (hat.2.2.1); have q3 := (Keeps.cell hSw (p := ⟨g, k * 4 + 3, none⟩) (hgl) (fun h => h)).trans (hat.2.2.2); go_simp; (try with_reducible rfl)
                try simp only [Act.put, List.setIfInBounds_toArray, List.set_cons_zero, List.set_cons_succ]
                refine wpAnyH_take (i := 4) (oi := ⟨some 85, _, _, _, _, _⟩) (v := ?v4v) rfl (by kernel_rfl) (by kernel_rfl) (by kernel_rfl) (fun _ _ _ h => h) (Or.inl ⟨by rfl, ?h4v⟩) (by assumption) ?r4v
                case h4v => intro w hSw; (try dsimp only at hSw); have q0 := (Keeps.cell hSw (p := ⟨R, 0, none⟩) (hrl) (fun h => h)).trans (hr0); have q1 := (Keeps.cell hSw (p := ⟨R, 1, none⟩) (hrl) (fun h => h)).trans (hr1); have q2 := (Keeps.cell hSw (p := ⟨R, 2, none⟩) (hrl) (fun h => h)).trans (hr2); have q3 := (Keeps.cell hSw (p := ⟨R, 3, none⟩) (hrl) (fun h => h)).trans (hr3); go_simp; (try with_reducible rfl)
                try simp only [Act.put, List.setIfInBounds_toArray, List.set_cons_zero, List.set_cons_succ]
                refine wpAnyH_ready (rs := [5, 11]) (by kernel_rfl) (by simp) ?_
                refine AllReadyH.cons (o := ⟨some 86, _, _, _, _, _⟩) rfl (fun K hK => ?_) (AllReadyH.cons (o := ⟨some 18, _, _, _, _, _⟩) rfl (fun K hK => ?_) AllReadyH.nil)
                · go_simp
                  (go_at_call 39; refine (HC2.out _).mono ?_; rintro z w4 ⟨rfl, hs4⟩; dsimp only)
                  refine hK.out _ _ (by (try dsimp only); repeat (first | exact Keeps.refl _ _ | refine Keeps.drew ?_ | refine Keeps.drewN ?_ _ | refine Keeps.alloc ?_ _ | refine Keeps.setCell ?_ (by simp; try omega) _ | exact Hid.out (by assumption) | refine Keeps.trans ?_ (by assumption))) (fun hHeld => ?_)
                  clear hK K
                  try simp only [Act.put, List.setIfInBounds_toArray, List.set_cons_zero, List.set_cons_succ]
                  have hz4 := hs4.size
                  simp at hz4
                  refine wpAnyH_take (i := 6) (oi := ⟨some 80, _, _, _, _, _⟩) (v := ?v6va) rfl (by kernel_rfl) (by kernel_rfl) (by kernel_rfl) (fun _ _ _ h => h) (Or.inl ⟨by rfl, ?h6va⟩) (by assumption) ?r6va
                  case h6va => intro w hSw; (try dsimp only at hSw); go_simp; (try with_reducible rfl)
                  try simp only [Act.put, List.setIfInBounds_toArray, List.set_cons_zero, List.set_cons_succ]
                  refine wpAnyH_take (i := 7) (oi := ⟨some 87, _, _, _, _, _⟩) (v := ?v7va) rfl (by kernel_rfl) (by kernel_rfl) (by kernel_rfl) (fun _ _ _ h => h) (Or.inl ⟨by rfl, ?h7va⟩) (by assumption) ?r7va
                  case h7va => intro w hSw; (try dsimp only at hSw); go_simp; (try with_reducible rfl)
                  try simp only [Act.put, List.setIfInBounds_toArray, List.set_cons_zero, List.set_cons_succ]
                  refine wpAnyH_take (i := 8) (oi := ⟨some 88, _, _, _, _, _⟩) (v := ?v8va) rfl (by kernel_rfl) (by kernel_rfl) (by kernel_rfl) (fun _ _ _ h => h) (Or.inl ⟨by rfl, ?h8va⟩) (by assumption) ?r8va
                  case h8va => intro w hSw; (try dsimp only at hSw); go_simp; (try with_reducible rfl)
                  try simp only [Act.put, List.setIfInBounds_toArray, List.set_cons_zero, List.set_cons_succ]
                  refine wpAnyH_take (i := 9) (oi := ⟨some 89, _, _, _, _, _⟩) (v := ?v9va) rfl (by kernel_rfl) (by kernel_rfl) (by kernel_rfl) (fun _ _ _ h => h) (Or.inl ⟨by rfl, ?h9va⟩) (by assumption) ?r9va
                  case h9va => intro w hSw; (try dsimp only at hSw); go_simp; (try with_reducible rfl)
                  try simp only [Act.put, List.setIfInBounds_toArray, List.set_cons_zero, List.set_cons_succ]
                  refine wpAnyH_take (i := 10) (oi := ⟨some 90, _, _, _, _, _⟩) (v := ?v10va) rfl (by kernel_rfl) (by kernel_rfl) (by kernel_rfl) (fun _ _ _ h => h) (Or.inl ⟨by rfl, ?h10va⟩) (by assumption) ?r10va
                  case h10va => intro w hSw; (try dsimp only at hSw); go_simp; (try with_reducible rfl)
                  try simp only [Act.put, List.setIfInBounds_toArray, List.set_cons_zero, List.set_cons_succ]
                  refine wpAnyH_ready (rs := [11]) (by kernel_rfl) (by simp) ?_
                  refine AllReadyH.cons (o := ⟨some 18, _, _, _, _, _⟩) rfl (fun K hK => ?_) AllReadyH.nil
                  go_simp
                  refine hK.out _ _ (by (try dsimp only); repeat (first | exact Keeps.refl _ _ | refine Keeps.drew ?_ | refine Keeps.drewN ?_ _ | refine Keeps.alloc ?_ _ | refine Keeps.setCell ?_ (by simp; try omega) _ | exact Hid.out (by assumption) | refine Keeps.trans ?_ (by assumption))) (fun hHeld => ?_)
                  clear hK K
                  try simp only [Act.put, List.setIfInBounds_toArray, List.set_cons_zero, List.set_cons_succ]
                  refine wpAnyH_take (i := 12) (oi := ⟨some 16, _, _, _, _, _⟩) (v := ?v12va) rfl (by kernel_rfl) (by kernel_rfl) (by kernel_rfl) (fun _ _ _ h => h) (Or.inl ⟨by rfl, ?h12va⟩) (by assumption) ?r12va
                  case h12va => intro w hSw; (try dsimp only at hSw); go_simp; (try with_reducible rfl)
                  try simp only [Act.put, List.setIfInBounds_toArray, List.set_cons_zero, List.set_cons_succ]
                  refine wpAnyH_take (i := 13) (oi := ⟨some 17, _, _, _, _, _⟩) (v := ?v13va) rfl (by kernel_rfl) (by kernel_rfl) (by kernel_rfl) (fun _ _ _ h => h) (Or.inl ⟨by rfl, ?h13va⟩) (by assumption) ?r13va
                  case h13va => intro w hSw; (try dsimp only at hSw); go_simp; (try with_reducible rfl)
                  try simp only [Act.put, List.setIfInBounds_toArray, List.set_cons_zero, List.set_cons_succ]
                  refine wpAnyH_ready (rs := [14]) (by kernel_rfl) (by simp) ?_
                  refine AllReadyH.cons (o := ⟨none, _, _, _, _, _⟩) rfl (fun K hK => ?_) AllReadyH.nil
                  go_simp
                  refine hK.out _ _ (by (try dsimp only); repeat (first | exact Keeps.refl _ _ | refine Keeps.drew ?_ | refine Keeps.drewN ?_ _ | refine Keeps.alloc ?_ _ | refine Keeps.setCell ?_ (by simp; try omega) _ | exact Hid.out (by assumption) | refine Keeps.trans ?_ (by assumption))) (fun hHeld => ?_)
                  clear hK K
                  try simp only [Act.put, List.setIfInBounds_toArray, List.set_cons_zero, List.set_cons_succ]
                  refine wpAnyH_take (i := 15) (oi := ⟨some 19, _, _, _, _, _⟩) (v := ?v15va) rfl (by kernel_rfl) (by kernel_rfl) (by kernel_rfl) (fun _ _ _ h => h) (Or.inl ⟨by rfl, ?h15va⟩) (by assumption) ?r15va
                  case h15va => intro w hSw; (try dsimp only at hSw); go_simp; (try with_reducible rfl)
                  try simp only [Act.put, List.setIfInBounds_toArray, List.set_cons_zero, List.set_cons_succ]
                  refine wpAnyH_done (by kernel_rfl) ?_ _
                  go_wp2_with fail
                  go_meet
                  refine ⟨_, rfl, rfl, Blk.new _ _ _, ?_, ?_⟩
                  · first | omega | (simp; omega)
                  · repeat (first | exact Keeps.refl _ _ | refine Keeps.drew ?_ | refine Keeps.drewN ?_ _ | refine Keeps.alloc ?_ _ | refine Keeps.setCell ?_ (by simp; try omega) _ | exact Hid.out (by assumption) | refine Keeps.trans ?_ (by assumption))
                · go_simp
                  refine hK.out _ _ (by (try dsimp only); repeat (first | exact Keeps.refl _ _ | refine Keeps.drew ?_ | refine Keeps.drewN ?_ _ | refine Keeps.alloc ?_ _ | refine Keeps.setCell ?_ (by simp; try omega) _ | exact Hid.out (by assumption) | refine Keeps.trans ?_ (by assumption))) (fun hHeld => ?_)
                  clear hK K
                  try simp only [Act.put, List.setIfInBounds_toArray, List.set_cons_zero, List.set_cons_succ]
                  refine wpAnyH_ready (rs := [5]) (by kernel_rfl) (by simp) ?_
                  refine AllReadyH.cons (o := ⟨some 86, _, _, _, _, _⟩) rfl (fun K hK => ?_) AllReadyH.nil
                  go_simp
                  (go_at_call 39; refine (HC2.out _).mono ?_; rintro z w4 ⟨rfl, hs4⟩; dsimp only)
                  refine hK.out _ _ (by (try dsimp only); repeat (first | exact Keeps.refl _ _ | refine Keeps.drew ?_ | refine Keeps.drewN ?_ _ | refine Keeps.alloc ?_ _ | refine Keeps.setCell ?_ (by simp; try omega) _ | exact Hid.out (by assumption) | refine Keeps.trans ?_ (by assumption))) (fun hHeld => ?_)
                  clear hK K
                  try simp only [Act.put, List.setIfInBounds_toArray, List.set_cons_zero, List.set_cons_succ]
                  have hzB := Blk.keeps (t := 44) (Blk.drew (Blk.new_at (n := wc.heap.size) (cs := #[i6 0, i6 0, i6 0, i6 0]) (by simp))) hs4 (fun h => h); have hzl := hzB.lt; have hzb := hzB.four
                  refine wpAnyH_take (i := 6) (oi := ⟨some 80, _, _, _, _, _⟩) (v := ?v6vb) rfl (by kernel_rfl) (by kernel_rfl) (by kernel_rfl) (fun _ _ _ h => h) (Or.inl ⟨by rfl, ?h6vb⟩) (by assumption) ?r6vb
                  case h6vb => intro w hSw; (try dsimp only at hSw); go_simp; (try with_reducible rfl)
                  try simp only [Act.put, List.setIfInBounds_toArray, List.set_cons_zero, List.set_cons_succ]
                  refine wpAnyH_take (i := 7) (oi := ⟨some 87, _, _, _, _, _⟩) (v := ?v7vb) rfl (by kernel_rfl) (by kernel_rfl) (by kernel_rfl) (fun _ _ _ h => h) (Or.inl ⟨by rfl, ?h7vb⟩) (by assumption) ?r7vb
                  case h7vb => intro w hSw; (try dsimp only at hSw); go_simp; (try with_reducible rfl)
                  try simp only [Act.put, List.setIfInBounds_toArray, List.set_cons_zero, List.set_cons_succ]
                  refine wpAnyH_take (i := 8) (oi := ⟨some 88, _, _, _, _, _⟩) (v := ?v8vb) rfl (by kernel_rfl) (by kernel_rfl) (by kernel_rfl) (fun _ _ _ h => h) (Or.inl ⟨by rfl, ?h8vb⟩) (by assumption) ?r8vb
                  case h8vb => intro w hSw; (try dsimp only at hSw); go_simp; (try with_reducible rfl)
                  try simp only [Act.put, List.setIfInBounds_toArray, List.set_cons_zero, List.set_cons_succ]
                  refine wpAnyH_take (i := 9) (oi := ⟨some 89, _, _, _, _, _⟩) (v := ?v9vb) rfl (by kernel_rfl) (by kernel_rfl) (by kernel_rfl) (fun _ _ _ h => h) (Or.inl ⟨by rfl, ?h9vb⟩) (by assumption) ?r9vb
                  case h9vb => intro w hSw; (try dsimp only at hSw); go_simp; (try with_reducible rfl)
                  try simp only [Act.put, List.setIfInBounds_toArray, List.set_cons_zero, List.set_cons_succ]
                  refine wpAnyH_take (i := 10) (oi := ⟨some 90, _, _, _, _, _⟩) (v := ?v10vb) rfl (by kernel_rfl) (by kernel_rfl) (by kernel_rfl) (fun _ _ _ h => h) (Or.inl ⟨by rfl, ?h10vb⟩) (by assumption) ?r10vb
                  case h10vb => intro w hSw; (try dsimp only at hSw); go_simp; (try with_reducible rfl)
                  try simp only [Act.put, List.setIfInBounds_toArray, List.set_cons_zero, List.set_cons_succ]
                  refine wpAnyH_take (i := 12) (oi := ⟨some 16, _, _, _, _, _⟩) (v := ?v12vb) rfl (by kernel_rfl) (by kernel_rfl) (by kernel_rfl) (fun _ _ _ h => h) (Or.inl ⟨by rfl, ?h12vb⟩) (by assumption) ?r12vb
                  case h12vb => intro w hSw; (try dsimp only at hSw); go_simp; (try with_reducible rfl)
                  try simp only [Act.put, List.setIfInBounds_toArray, List.set_cons_zero, List.set_cons_succ]
                  refine wpAnyH_take (i := 13) (oi := ⟨some 17, _, _, _, _, _⟩) (v := ?v13vb) rfl (by kernel_rfl) (by kernel_rfl) (by kernel_rfl) (fun _ _ _ h => h) (Or.inl ⟨by rfl, ?h13vb⟩) (by assumption) ?r13vb
                  case h13vb => intro w hSw; (try dsimp only at hSw); go_simp; (try with_reducible rfl)
                  try simp only [Act.put, List.setIfInBounds_toArray, List.set_cons_zero, List.set_cons_succ]
                  refine wpAnyH_ready (rs := [14]) (by kernel_rfl) (by simp) ?_
                  refine AllReadyH.cons (o := ⟨none, _, _, _, _, _⟩) rfl (fun K hK => ?_) AllReadyH.nil
                  go_simp
                  refine hK.out _ _ (by (try dsimp only); repeat (first | exact Keeps.refl _ _ | refine Keeps.drew ?_ | refine Keeps.drewN ?_ _ | refine Keeps.alloc ?_ _ | refine Keeps.setCell ?_ (by simp; try omega) _ | exact Hid.out (by assumption) | refine Keeps.trans ?_ (by assumption))) (fun hHeld => ?_)
                  clear hK K
                  try simp only [Act.put, List.setIfInBounds_toArray, List.set_cons_zero, List.set_cons_succ]
                  refine wpAnyH_take (i := 15) (oi := ⟨some 19, _, _, _, _, _⟩) (v := ?v15vb) rfl (by kernel_rfl) (by kernel_rfl) (by kernel_rfl) (fun _ _ _ h => h) (Or.inl ⟨by rfl, ?h15vb⟩) (by assumption) ?r15vb
                  case h15vb => intro w hSw; (try dsimp only at hSw); go_simp; (try with_reducible rfl)
                  try simp only [Act.put, List.setIfInBounds_toArray, List.set_cons_zero, List.set_cons_succ]
                  refine wpAnyH_done (by kernel_rfl) ?_ _
                  go_wp2_with fail
                  go_meet
                  refine ⟨_, rfl, rfl, hzB.set4 _ _ _ _, ?_, ?_⟩
                  · first | omega | (simp; omega)
                  · repeat (first | exact Keeps.refl _ _ | refine Keeps.drew ?_ | refine Keeps.drewN ?_ _ | refine Keeps.alloc ?_ _ | refine Keeps.setCell ?_ (by simp; try omega) _ | exact Hid.out (by assumption) | refine Keeps.trans ?_ (by assumption))
              case rest =>
                obtain ⟨b18, rfl, rfl, hb18, hge18, hsm2⟩ := hcut
                replace hr' := hr'.keeps hsm2 (fun h => h)
                replace hsm := hsm.trans hsm2
                replace hat2 := rpks_at (hB.same hsm) k _ hget
                have f18 := hb18.four
                have fR := hr'.four
                clear hr0 hr1 hr2 hr3 hrf hat hsm2
                dsimp only at hat2
                rcases hor with ⟨rfl, rfl, rfl, rfl, rfl, hy⟩ | ⟨hk1, hbk⟩
                · go_wp2_with fail
                  go_roundw
                  case rel => exact ⟨k + 1, h + 1, by omega, by go_num, rfl, by omega, (y0, y1, y2, y3), hr', hok2, HF.out, hsm⟩
                  case measure => simp [intOf]; omega
                · have hk1' : (pk_ != 1) = true := by simpa using hk1
                  have hz := HNEG.out hk1
                  simp only [Prod.mk.injEq] at hz
                  obtain ⟨_, _, ⟨rfl, rfl, rfl, rfl⟩, rfl⟩ := hz
                  go_wp2_with fail
                  go_roundw
                  case rel => exact ⟨k + 1, h + x1, by omega, by go_num, rfl, by omega, (z2, z3, z4, z5), hr', hok2, HF.out, hsm⟩
                  case measure => simp [intOf]; omega
    · obtain rfl : k = l.length := by omega
      go_wp2_with fail
      go_ret
      exact ⟨rfl, hsm⟩
end Go.Proofs.Ytalopgbkjgjppaa
