/- The walk of model's tell. -/
import Derived.Test.YtalopgbkjgjppaaGreatDoorCo
import Derived.Test.YtalopgbkjgjppaaGreatDoorGWin
namespace Go.Proofs.YtalopgbkjgjppaaGreatDoor
open Go.RowKit Go.Cas Go.Cas.Enc

theorem MM.told {w w' : World} {L : Lay} {S S' : MSt} {P : Prb} {q q' : Option Addr} {cap cap' : Nat} (h : MM w L S P q cap) (hK : Keeps (fun b => b = L.φ 0 ∨ winF L.wb q b) w w') (hB : Blk w' (L.φ 0) (cellsOf L S' (P 0) 0) (typOf 0))
    (hW : Win w' L.wb L.most S'.text q' cap') (hG : ∀ k, winF L.wb q' k → winF L.wb q k ∨ w.heap.size ≤ k) (hpar : S'.st < 12 ∧ S'.text.length ≤ 100000000) : MM w' L S' P q' cap' := by
  have hu0 : L.used 0 := used_small (by decide) (by decide)
  have hl : ¬ (L.lb = L.φ 0 ∨ winF L.wb q L.lb) := fun e => by
    rcases e with e | e
    · exact h.nlb 0 hu0 e.symm
    · exact h.nwl e
  refine ⟨fun j hj => ?_, fun a ha => (hK.cell (p := ⟨L.lb, a, none⟩) h.lbl hl).trans (h.lit a ha), Nat.lt_of_lt_of_le h.lbl hK.size, hW, h.beh.keeps hK ?_, h.inj, h.nlb, fun i hi e => ?_, fun e => ?_, ⟨h.n0.1, h.n0.2.1, fun e => ?_⟩, h.ok, ⟨h.par.1, h.par.2.1, hpar⟩⟩
  · by_cases e : j = 0
    · subst e; exact hB
    · have hc : cellsOf L S' (P j) j = cellsOf L S (P j) j := by unfold cellsOf; rw [if_neg e, if_neg e]
      rw [hc]
      refine (h.blk j hj).keeps hK fun e' => ?_
      rcases e' with e' | e'
      · exact e (h.inj j 0 hj hu0 e')
      · exact h.nwin j hj e'
  · intro e
    rcases e with e | e
    · exact h.n0.1 0 hu0 e.symm
    · exact h.n0.2.2 e
  · rcases hG _ e with e | e
    · exact h.nwin i hi e
    · have := (h.blk i hi).lt; omega
  · rcases hG _ e with e | e
    · exact h.nwl e
    · have := h.lbl; omega
  · rcases hG _ e with e | e
    · exact h.n0.2.2 e
    · have := h.beh.1; omega

theorem mcell_r0 (L : Lay) (S : MSt) (f : Nat → Nat) (x : Int) : (rowV (mcell L S f) 464).setIfInBounds 6 (i6 x) = rowV (mcell L { S with r0 := x } f) 464 := rowV_set _ _ _ _ _ rfl fun k hk => by unfold mcell; simp [hk]
theorem mcell_r1 (L : Lay) (S : MSt) (f : Nat → Nat) (x : Int) : (rowV (mcell L S f) 464).setIfInBounds 7 (i6 x) = rowV (mcell L { S with r1 := x } f) 464 := rowV_set _ _ _ _ _ rfl fun k hk => by unfold mcell; simp [hk]
theorem mcell_r2 (L : Lay) (S : MSt) (f : Nat → Nat) (x : Int) : (rowV (mcell L S f) 464).setIfInBounds 8 (i6 x) = rowV (mcell L { S with r2 := x } f) 464 := rowV_set _ _ _ _ _ rfl fun k hk => by unfold mcell; simp [hk]
theorem mcell_r3 (L : Lay) (S : MSt) (f : Nat → Nat) (x : Int) : (rowV (mcell L S f) 464).setIfInBounds 9 (i6 x) = rowV (mcell L { S with r3 := x } f) 464 := rowV_set _ _ _ _ _ rfl fun k hk => by unfold mcell; simp [hk]
theorem mcell_st' (L : Lay) (S : MSt) (f : Nat → Nat) (x : Nat) : (rowV (mcell L S f) 464).setIfInBounds 5 (i6 x) = rowV (mcell L { S with st := x } f) 464 := rowV_set _ _ _ _ _ rfl fun k hk => by unfold mcell; simp [hk]
/-- What a packet that fits makes of the state. -/
def tellS (S : MSt) (p : Pk) : MSt :=
  let f := fitsL p.k p.d p.l p.y.toNat S.text.length S.r0 S.r1 S.r2 S.r3
  ⟨nextS S.st p.k.toNat, f.2.2.1.1, f.2.2.1.2.1, f.2.2.1.2.2.1, f.2.2.1.2.2.2, if p.k = 1 then S.text ++ [p.y] else copyL S.text f.1.toNat f.2.1.toNat⟩

def Room (L : Lay) (S : MSt) (p : Pk) : Prop :=
  (fitsL p.k p.d p.l p.y.toNat S.text.length S.r0 S.r1 S.r2 S.r3).2.2.2 = true ∧ 1 ≤ p.k ∧ p.k ≤ 4 ∧
  (p.k ≠ 1 → 1 ≤ (fitsL p.k p.d p.l p.y.toNat S.text.length S.r0 S.r1 S.r2 S.r3).1 ∧ (fitsL p.k p.d p.l p.y.toNat S.text.length S.r0 S.r1 S.r2 S.r3).1 ≤ S.text.length) ∧
  1 ≤ (fitsL p.k p.d p.l p.y.toNat S.text.length S.r0 S.r1 S.r2 S.r3).2.1 ∧ (S.text.length : Int) + (fitsL p.k p.d p.l p.y.toNat S.text.length S.r0 S.r1 S.r2 S.r3).2.1 ≤ L.most ∧ L.most ≤ 100000000

/-- What telling leaves. -/
def ToldLeft (w w' : World) (L : Lay) (S' : MSt) (P : Prb) (q : Option Addr) : Prop :=
  ∃ q' cap', MM w' L S' P q' cap' ∧ Keeps (fun b => b = L.φ 0 ∨ winF L.wb q b) w w' ∧ (∀ k, winF L.wb q' k → winF L.wb q k ∨ w.heap.size ≤ k)

set_option maxHeartbeats 16000000 in
set_option maxRecDepth 100000 in
theorem mtell_any (w : World) (L : Lay) (S : MSt) (P : Prb) (q : Option Addr) (cap : Nat) (p : Pk) (h : MM w L S P q cap) (hr : Room L S p) :
    Calls Tryz.prog 67 #[.pointer (some ⟨L.φ 0, 0, none⟩), pk p.k p.d p.l (p.y.toNat : Int)] w fun z w' =>
      z = .returned (.bool true) ∧ ToldLeft w w' L (tellS S p) P q := by
  obtain ⟨hok, hk1, hk4, hfar, hn1, hroom, hmost⟩ := hr
  have HFit := hid (fun w0 => fits_any p.k p.d p.l p.y.toNat S.text.length S.r0 S.r1 S.r2 S.r3 w0)
  obtain ⟨S', hS'⟩ : ∃ S', tellS S p = S' := ⟨_, rfl⟩
  rw [hS']
  unfold tellS at hS'
  obtain ⟨pk_, pd, pl, py⟩ := p
  dsimp only at *
  generalize fitsL pk_ pd pl py.toNat S.text.length S.r0 S.r1 S.r2 S.r3 = f at *
  obtain ⟨x0, x1, ⟨n0, n1, n2, n3⟩, ok⟩ := f
  dsimp only at *
  subst hok
  obtain ⟨kn, rfl⟩ : ∃ kn : Nat, pk_ = kn := ⟨pk_.toNat, by omega⟩
  rw [Int.toNat_natCast] at hS'
  have hst := h.par.2.2.1
  have htl := h.par.2.2.2
  have c4 : w.cell? ⟨L.φ 0, 4, none⟩ = some (.pointer (some ⟨L.wb, 0, none⟩)) := h.mcell 4 (by decide)
  have c5 : w.cell? ⟨L.φ 0, 5, none⟩ = some (i6 S.st) := h.mcell 5 (by decide)
  have c6 : w.cell? ⟨L.φ 0, 6, none⟩ = some (i6 S.r0) := h.mcell 6 (by decide)
  have c7 : w.cell? ⟨L.φ 0, 7, none⟩ = some (i6 S.r1) := h.mcell 7 (by decide)
  have c8 : w.cell? ⟨L.φ 0, 8, none⟩ = some (i6 S.r2) := h.mcell 8 (by decide)
  have c9 : w.cell? ⟨L.φ 0, 9, none⟩ = some (i6 S.r3) := h.mcell 9 (by decide)
  have hB0w := h.blk 0 (used_small (by decide) (by decide))
  have hφl := hB0w.lt
  obtain ⟨φ0, hφ0⟩ : ∃ φ0, L.φ 0 = φ0 := ⟨_, rfl⟩
  obtain ⟨st, hste⟩ : ∃ st, S.st = st := ⟨_, rfl⟩
  obtain ⟨N, hN⟩ : ∃ N, S.text.length = N := ⟨_, rfl⟩
  have HNx := hid (fun w0 hb => snext_any st kn w0 (by omega) (by omega) (by omega) hb)
  have HLen := hid (fun w0 hw => wlen_any L.wb L.most cap S.text q w0 hw)
  have HH := hid h
  have HS := hid hS'
  have HE := hid (And.intro hφ0 (And.intro hste hN))
  have HK14 := hid (And.intro hk1 hk4)
  have HF := hid (And.intro hfar (And.intro hn1 (And.intro hroom (And.intro hmost htl))))
  rw [hφ0] at c4 c5 c6 c7 c8 c9 hφl ⊢
  rw [hste] at c5 hst
  rw [hN] at HLen HFit
  clear hS' h hφ0 hste hN hfar hroom htl hB0w hk1 hk4 hn1 hmost
  go_enter Tryz.func67, Tryz.ntmps67
  go_upto_region 1 with fail
  have hb0 : Blk (w.alloc (.cells #[i6 kn, i6 pd, i6 pl, b8 py] PkT)) w.heap.size #[i6 kn, i6 pd, i6 pl, b8 py] PkT := (Blk.new _ _ _)
  have hs0 : Same w (w.alloc (.cells #[i6 kn, i6 pd, i6 pl, b8 py] PkT)) := (Keeps.refl _ _).alloc _
  generalize w.alloc (.cells #[i6 kn, i6 pd, i6 pl, b8 py] PkT) = w0 at hb0 hs0 ⊢
  obtain ⟨B, hB⟩ : ∃ B, w.heap.size = B := ⟨_, rfl⟩
  rw [hB] at hb0 hφl ⊢
  have hbl := hb0.lt
  have d4 := (hs0.cell (p := ⟨φ0, 4, none⟩) (by rw [hB]; exact hφl) (fun h => h)).trans c4
  have d6 := (hs0.cell (p := ⟨φ0, 6, none⟩) (by rw [hB]; exact hφl) (fun h => h)).trans c6
  have d7 := (hs0.cell (p := ⟨φ0, 7, none⟩) (by rw [hB]; exact hφl) (fun h => h)).trans c7
  have d8 := (hs0.cell (p := ⟨φ0, 8, none⟩) (by rw [hB]; exact hφl) (fun h => h)).trans c8
  have d9 := (hs0.cell (p := ⟨φ0, 9, none⟩) (by rw [hB]; exact hφl) (fun h => h)).trans c9
  have hφl2 : φ0 < w0.heap.size := by omega
  have hb0c := hb0.four
  have HW0 := hid (fun (V : World) (hV : Same w0 V) => (HH.out.win.keeps hs0 (fun _ _ h => h)).keeps hV (fun _ _ h => h))
  have HB := hid (And.intro hB (And.intro hb0 hs0))
  clear hB hb0 hs0
  go_cut [5, 6, 7, 8] (fun s5 s6 s7 s8 wx => ∃ b7 : Nat, s5 = i6 x0 ∧ s6 = i6 x1 ∧ s7 = .pointer (some ⟨b7, 0, none⟩) ∧ s8 = .bool true ∧ Blk wx b7 #[i6 n0, i6 n1, i6 n2, i6 n3] 69 ∧ w0.heap.size ≤ b7 ∧ Same w0 wx)
  case first =>
    refine wp_region_held_drew (S := (fun W => Same w0 W)) (by kernel_rfl) (by (try dsimp only); exact (Keeps.refl _ _).drew) (fun hHeld => ?_)
    refine wpAnyH_take (i := 0) (oi := ⟨some 10, _, _, _, _, _⟩) (v := ?v0x1) rfl (by kernel_rfl) (by kernel_rfl) (by kernel_rfl) (fun _ _ _ h => h) (Or.inl ⟨by rfl, ?h0x1⟩) (by assumption) ?r0x1
    case h0x1 => intro w hSw; (try dsimp only at hSw); have q0 := (Keeps.cell hSw (p := ⟨B, 0, none⟩) hbl (fun h => h)).trans hb0c.1; have q1 := (Keeps.cell hSw (p := ⟨B, 1, none⟩) hbl (fun h => h)).trans hb0c.2.1; have q2 := (Keeps.cell hSw (p := ⟨B, 2, none⟩) hbl (fun h => h)).trans hb0c.2.2.1; have q3 := (Keeps.cell hSw (p := ⟨B, 3, none⟩) hbl (fun h => h)).trans hb0c.2.2.2.1; go_simp; (try with_reducible rfl)
    try simp only [Act.put, List.setIfInBounds_toArray, List.set_cons_zero, List.set_cons_succ]
    refine wpAnyH_take (i := 1) (oi := ⟨some 11, _, _, _, _, _⟩) (v := ?v1x1) rfl (by kernel_rfl) (by kernel_rfl) (by kernel_rfl) (fun _ _ _ h => h) (Or.inl ⟨by rfl, ?h1x1⟩) (by assumption) ?r1x1
    case h1x1 => intro w hSw; (try dsimp only at hSw); go_simp; (try with_reducible rfl)
    try simp only [Act.put, List.setIfInBounds_toArray, List.set_cons_zero, List.set_cons_succ]
    refine wpAnyH_take (i := 2) (oi := ⟨some 12, _, _, _, _, _⟩) (v := ?v2x1) rfl (by kernel_rfl) (by kernel_rfl) (by kernel_rfl) (fun _ _ _ h => h) (Or.inl ⟨by rfl, ?h2x1⟩) (by assumption) ?r2x1
    case h2x1 => intro w hSw; (try dsimp only at hSw); go_simp; (try with_reducible rfl)
    try simp only [Act.put, List.setIfInBounds_toArray, List.set_cons_zero, List.set_cons_succ]
    refine wpAnyH_take (i := 3) (oi := ⟨some 13, _, _, _, _, _⟩) (v := ?v3x1) rfl (by kernel_rfl) (by kernel_rfl) (by kernel_rfl) (fun _ _ _ h => h) (Or.inl ⟨by rfl, ?h3x1⟩) (by assumption) ?r3x1
    case h3x1 => intro w hSw; (try dsimp only at hSw); go_simp; (try with_reducible rfl)
    try simp only [Act.put, List.setIfInBounds_toArray, List.set_cons_zero, List.set_cons_succ]
    refine wpAnyH_take (i := 4) (oi := ⟨some 14, _, _, _, _, _⟩) (v := ?v4x1) rfl (by kernel_rfl) (by kernel_rfl) (by kernel_rfl) (fun _ _ _ h => h) (Or.inl ⟨by rfl, ?h4x1⟩) (by assumption) ?r4x1
    case h4x1 => intro w hSw; (try dsimp only at hSw); have q4 := (Keeps.cell hSw (p := ⟨φ0, 4, none⟩) hφl2 (fun h => h)).trans d4; go_simp; (try with_reducible rfl)
    try simp only [Act.put, List.setIfInBounds_toArray, List.set_cons_zero, List.set_cons_succ]
    refine wpAnyH_take (i := 6) (oi := ⟨some 16, _, _, _, _, _⟩) (v := ?v6x1) rfl (by kernel_rfl) (by kernel_rfl) (by kernel_rfl) (fun _ _ _ h => h) (Or.inl ⟨by rfl, ?h6x1⟩) (by assumption) ?r6x1
    case h6x1 => intro w hSw; (try dsimp only at hSw); go_simp; (try with_reducible rfl)
    try simp only [Act.put, List.setIfInBounds_toArray, List.set_cons_zero, List.set_cons_succ]
    refine wpAnyH_take (i := 7) (oi := ⟨some 17, _, _, _, _, _⟩) (v := ?v7x1) rfl (by kernel_rfl) (by kernel_rfl) (by kernel_rfl) (fun _ _ _ h => h) (Or.inl ⟨by rfl, ?h7x1⟩) (by assumption) ?r7x1
    case h7x1 => intro w hSw; (try dsimp only at hSw); go_simp; (try with_reducible rfl)
    try simp only [Act.put, List.setIfInBounds_toArray, List.set_cons_zero, List.set_cons_succ]
    refine wpAnyH_take (i := 8) (oi := ⟨some 18, _, _, _, _, _⟩) (v := ?v8x1) rfl (by kernel_rfl) (by kernel_rfl) (by kernel_rfl) (fun _ _ _ h => h) (Or.inl ⟨by rfl, ?h8x1⟩) (by assumption) ?r8x1
    case h8x1 => intro w hSw; (try dsimp only at hSw); go_simp; (try with_reducible rfl)
    try simp only [Act.put, List.setIfInBounds_toArray, List.set_cons_zero, List.set_cons_succ]
    refine wpAnyH_take (i := 9) (oi := ⟨some 19, _, _, _, _, _⟩) (v := ?v9x1) rfl (by kernel_rfl) (by kernel_rfl) (by kernel_rfl) (fun _ _ _ h => h) (Or.inl ⟨by rfl, ?h9x1⟩) (by assumption) ?r9x1
    case h9x1 => intro w hSw; (try dsimp only at hSw); have q6 := (Keeps.cell hSw (p := ⟨φ0, 6, none⟩) hφl2 (fun h => h)).trans d6; have q7 := (Keeps.cell hSw (p := ⟨φ0, 7, none⟩) hφl2 (fun h => h)).trans d7; have q8 := (Keeps.cell hSw (p := ⟨φ0, 8, none⟩) hφl2 (fun h => h)).trans d8; have q9 := (Keeps.cell hSw (p := ⟨φ0, 9, none⟩) hφl2 (fun h => h)).trans d9; go_simp; (try with_reducible rfl)
    try simp only [Act.put, List.setIfInBounds_toArray, List.set_cons_zero, List.set_cons_succ]
    refine wpAnyH_ready (rs := [5, 16]) (by kernel_rfl) (by simp) ?_
    refine AllReadyH.cons (o := ⟨some 15, _, _, _, _, _⟩) rfl (fun K hK => ?_) (AllReadyH.cons (o := ⟨some 7, _, _, _, _, _⟩) rfl (fun K hK => ?_) AllReadyH.nil)
    · go_simp; (go_at_call 65; refine (HLen.out _ (HW0.out _ (by repeat (first | exact Keeps.refl _ _ | refine Keeps.drew ?_ | refine Keeps.drewN ?_ _ | refine Keeps.alloc ?_ _ | refine Keeps.setCell ?_ (by simp; try omega) _ | exact Hid.out (by assumption) | refine Keeps.trans ?_ (by assumption))))).mono ?_; rintro z w5 ⟨rfl, rfl⟩)
      refine hK.out _ _ (by (try dsimp only); repeat (first | exact Keeps.refl _ _ | refine Keeps.drew ?_ | refine Keeps.drewN ?_ _ | refine Keeps.alloc ?_ _ | refine Keeps.setCell ?_ (by simp; try omega) _ | exact Hid.out (by assumption) | refine Keeps.trans ?_ (by assumption))) (fun hHeld => ?_)
      clear hK K
      try simp only [Act.put, List.setIfInBounds_toArray, List.set_cons_zero, List.set_cons_succ]
      refine wpAnyH_ready (rs := [10, 16]) (by kernel_rfl) (by simp) ?_
      refine AllReadyH.cons (o := ⟨some 20, _, _, _, _, _⟩) rfl (fun K hK => ?_) (AllReadyH.cons (o := ⟨some 7, _, _, _, _, _⟩) rfl (fun K hK => ?_) AllReadyH.nil)
      · go_simp; (go_at_call 64; refine (HFit.out _).mono ?_; rintro z w4 ⟨rfl, hs4⟩; dsimp only)
        refine hK.out _ _ (by (try dsimp only); repeat (first | exact Keeps.refl _ _ | refine Keeps.drew ?_ | refine Keeps.drewN ?_ _ | refine Keeps.alloc ?_ _ | refine Keeps.setCell ?_ (by simp; try omega) _ | exact Hid.out (by assumption) | refine Keeps.trans ?_ (by assumption))) (fun hHeld => ?_)
        clear hK K
        try simp only [Act.put, List.setIfInBounds_toArray, List.set_cons_zero, List.set_cons_succ]
        have hz4 := hs4.size
        simp at hz4
        refine wpAnyH_take (i := 11) (oi := ⟨some 9, _, _, _, _, _⟩) (v := ?v11x3) rfl (by kernel_rfl) (by kernel_rfl) (by kernel_rfl) (fun _ _ _ h => h) (Or.inl ⟨by rfl, ?h11x3⟩) (by assumption) ?r11x3
        case h11x3 => intro w hSw; (try dsimp only at hSw); go_simp; (try with_reducible rfl)
        try simp only [Act.put, List.setIfInBounds_toArray, List.set_cons_zero, List.set_cons_succ]
        refine wpAnyH_take (i := 12) (oi := ⟨some 21, _, _, _, _, _⟩) (v := ?v12x3) rfl (by kernel_rfl) (by kernel_rfl) (by kernel_rfl) (fun _ _ _ h => h) (Or.inl ⟨by rfl, ?h12x3⟩) (by assumption) ?r12x3
        case h12x3 => intro w hSw; (try dsimp only at hSw); go_simp; (try with_reducible rfl)
        try simp only [Act.put, List.setIfInBounds_toArray, List.set_cons_zero, List.set_cons_succ]
        refine wpAnyH_take (i := 13) (oi := ⟨some 22, _, _, _, _, _⟩) (v := ?v13x3) rfl (by kernel_rfl) (by kernel_rfl) (by kernel_rfl) (fun _ _ _ h => h) (Or.inl ⟨by rfl, ?h13x3⟩) (by assumption) ?r13x3
        case h13x3 => intro w hSw; (try dsimp only at hSw); go_simp; (try with_reducible rfl)
        try simp only [Act.put, List.setIfInBounds_toArray, List.set_cons_zero, List.set_cons_succ]
        refine wpAnyH_take (i := 14) (oi := ⟨some 23, _, _, _, _, _⟩) (v := ?v14x3) rfl (by kernel_rfl) (by kernel_rfl) (by kernel_rfl) (fun _ _ _ h => h) (Or.inl ⟨by rfl, ?h14x3⟩) (by assumption) ?r14x3
        case h14x3 => intro w hSw; (try dsimp only at hSw); go_simp; (try with_reducible rfl)
        try simp only [Act.put, List.setIfInBounds_toArray, List.set_cons_zero, List.set_cons_succ]
        refine wpAnyH_take (i := 15) (oi := ⟨some 24, _, _, _, _, _⟩) (v := ?v15x3) rfl (by kernel_rfl) (by kernel_rfl) (by kernel_rfl) (fun _ _ _ h => h) (Or.inl ⟨by rfl, ?h15x3⟩) (by assumption) ?r15x3
        case h15x3 => intro w hSw; (try dsimp only at hSw); go_simp; (try with_reducible rfl)
        try simp only [Act.put, List.setIfInBounds_toArray, List.set_cons_zero, List.set_cons_succ]
        refine wpAnyH_ready (rs := [16]) (by kernel_rfl) (by simp) ?_
        refine AllReadyH.cons (o := ⟨some 7, _, _, _, _, _⟩) rfl (fun K hK => ?_) AllReadyH.nil
        go_simp
        refine hK.out _ _ (by (try dsimp only); repeat (first | exact Keeps.refl _ _ | refine Keeps.drew ?_ | refine Keeps.drewN ?_ _ | refine Keeps.alloc ?_ _ | refine Keeps.setCell ?_ (by simp; try omega) _ | exact Hid.out (by assumption) | refine Keeps.trans ?_ (by assumption))) (fun hHeld => ?_)
        clear hK K
        try simp only [Act.put, List.setIfInBounds_toArray, List.set_cons_zero, List.set_cons_succ]
        refine wpAnyH_take (i := 17) (oi := ⟨some 5, _, _, _, _, _⟩) (v := ?v17x3) rfl (by kernel_rfl) (by kernel_rfl) (by kernel_rfl) (fun _ _ _ h => h) (Or.inl ⟨by rfl, ?h17x3⟩) (by assumption) ?r17x3
        case h17x3 => intro w hSw; (try dsimp only at hSw); go_simp; (try with_reducible rfl)
        try simp only [Act.put, List.setIfInBounds_toArray, List.set_cons_zero, List.set_cons_succ]
        refine wpAnyH_take (i := 18) (oi := ⟨some 6, _, _, _, _, _⟩) (v := ?v18x3) rfl (by kernel_rfl) (by kernel_rfl) (by kernel_rfl) (fun _ _ _ h => h) (Or.inl ⟨by rfl, ?h18x3⟩) (by assumption) ?r18x3
        case h18x3 => intro w hSw; (try dsimp only at hSw); go_simp; (try with_reducible rfl)
        try simp only [Act.put, List.setIfInBounds_toArray, List.set_cons_zero, List.set_cons_succ]
        refine wpAnyH_ready (rs := [19]) (by kernel_rfl) (by simp) ?_
        refine AllReadyH.cons (o := ⟨none, _, _, _, _, _⟩) rfl (fun K hK => ?_) AllReadyH.nil
        go_simp
        refine hK.out _ _ (by (try dsimp only); repeat (first | exact Keeps.refl _ _ | refine Keeps.drew ?_ | refine Keeps.drewN ?_ _ | refine Keeps.alloc ?_ _ | refine Keeps.setCell ?_ (by simp; try omega) _ | exact Hid.out (by assumption) | refine Keeps.trans ?_ (by assumption))) (fun hHeld => ?_)
        clear hK K
        try simp only [Act.put, List.setIfInBounds_toArray, List.set_cons_zero, List.set_cons_succ]
        refine wpAnyH_take (i := 20) (oi := ⟨some 8, _, _, _, _, _⟩) (v := ?v20x3) rfl (by kernel_rfl) (by kernel_rfl) (by kernel_rfl) (fun _ _ _ h => h) (Or.inl ⟨by rfl, ?h20x3⟩) (by assumption) ?r20x3
        case h20x3 => intro w hSw; (try dsimp only at hSw); go_simp; (try with_reducible rfl)
        try simp only [Act.put, List.setIfInBounds_toArray, List.set_cons_zero, List.set_cons_succ]
        refine wpAnyH_done (by kernel_rfl) ?_ _
        go_wp2_with fail
        go_meet
        refine ⟨_, rfl, rfl, rfl, rfl, Blk.new _ _ _, ?_, ?_⟩
        · first | omega | (simp; omega)
        · repeat (first | exact Keeps.refl _ _ | refine Keeps.drew ?_ | refine Keeps.drewN ?_ _ | refine Keeps.alloc ?_ _ | refine Keeps.setCell ?_ (by simp; try omega) _ | exact Hid.out (by assumption) | refine Keeps.trans ?_ (by assumption))
      · go_simp
        refine hK.out _ _ (by (try dsimp only); repeat (first | exact Keeps.refl _ _ | refine Keeps.drew ?_ | refine Keeps.drewN ?_ _ | refine Keeps.alloc ?_ _ | refine Keeps.setCell ?_ (by simp; try omega) _ | exact Hid.out (by assumption) | refine Keeps.trans ?_ (by assumption))) (fun hHeld => ?_)
        clear hK K
        try simp only [Act.put, List.setIfInBounds_toArray, List.set_cons_zero, List.set_cons_succ]
        refine wpAnyH_ready (rs := [10]) (by kernel_rfl) (by simp) ?_
        refine AllReadyH.cons (o := ⟨some 20, _, _, _, _, _⟩) rfl (fun K hK => ?_) AllReadyH.nil
        go_simp; (go_at_call 64; refine (HFit.out _).mono ?_; rintro z w4 ⟨rfl, hs4⟩; dsimp only)
        refine hK.out _ _ (by (try dsimp only); repeat (first | exact Keeps.refl _ _ | refine Keeps.drew ?_ | refine Keeps.drewN ?_ _ | refine Keeps.alloc ?_ _ | refine Keeps.setCell ?_ (by simp; try omega) _ | exact Hid.out (by assumption) | refine Keeps.trans ?_ (by assumption))) (fun hHeld => ?_)
        clear hK K
        try simp only [Act.put, List.setIfInBounds_toArray, List.set_cons_zero, List.set_cons_succ]
        have hzB := Blk.keeps (t := 69) (Blk.drew (Blk.new_at (n := w0.heap.size) (cs := #[i6 0, i6 0, i6 0, i6 0]) (by simp))) hs4 (fun h => h); have hzl := hzB.lt; have hzb := hzB.four
        refine wpAnyH_take (i := 11) (oi := ⟨some 9, _, _, _, _, _⟩) (v := ?v11x4) rfl (by kernel_rfl) (by kernel_rfl) (by kernel_rfl) (fun _ _ _ h => h) (Or.inl ⟨by rfl, ?h11x4⟩) (by assumption) ?r11x4
        case h11x4 => intro w hSw; (try dsimp only at hSw); go_simp; (try with_reducible rfl)
        try simp only [Act.put, List.setIfInBounds_toArray, List.set_cons_zero, List.set_cons_succ]
        refine wpAnyH_take (i := 12) (oi := ⟨some 21, _, _, _, _, _⟩) (v := ?v12x4) rfl (by kernel_rfl) (by kernel_rfl) (by kernel_rfl) (fun _ _ _ h => h) (Or.inl ⟨by rfl, ?h12x4⟩) (by assumption) ?r12x4
        case h12x4 => intro w hSw; (try dsimp only at hSw); go_simp; (try with_reducible rfl)
        try simp only [Act.put, List.setIfInBounds_toArray, List.set_cons_zero, List.set_cons_succ]
        refine wpAnyH_take (i := 13) (oi := ⟨some 22, _, _, _, _, _⟩) (v := ?v13x4) rfl (by kernel_rfl) (by kernel_rfl) (by kernel_rfl) (fun _ _ _ h => h) (Or.inl ⟨by rfl, ?h13x4⟩) (by assumption) ?r13x4
        case h13x4 => intro w hSw; (try dsimp only at hSw); go_simp; (try with_reducible rfl)
        try simp only [Act.put, List.setIfInBounds_toArray, List.set_cons_zero, List.set_cons_succ]
        refine wpAnyH_take (i := 14) (oi := ⟨some 23, _, _, _, _, _⟩) (v := ?v14x4) rfl (by kernel_rfl) (by kernel_rfl) (by kernel_rfl) (fun _ _ _ h => h) (Or.inl ⟨by rfl, ?h14x4⟩) (by assumption) ?r14x4
        case h14x4 => intro w hSw; (try dsimp only at hSw); go_simp; (try with_reducible rfl)
        try simp only [Act.put, List.setIfInBounds_toArray, List.set_cons_zero, List.set_cons_succ]
        refine wpAnyH_take (i := 15) (oi := ⟨some 24, _, _, _, _, _⟩) (v := ?v15x4) rfl (by kernel_rfl) (by kernel_rfl) (by kernel_rfl) (fun _ _ _ h => h) (Or.inl ⟨by rfl, ?h15x4⟩) (by assumption) ?r15x4
        case h15x4 => intro w hSw; (try dsimp only at hSw); go_simp; (try with_reducible rfl)
        try simp only [Act.put, List.setIfInBounds_toArray, List.set_cons_zero, List.set_cons_succ]
        refine wpAnyH_take (i := 17) (oi := ⟨some 5, _, _, _, _, _⟩) (v := ?v17x4) rfl (by kernel_rfl) (by kernel_rfl) (by kernel_rfl) (fun _ _ _ h => h) (Or.inl ⟨by rfl, ?h17x4⟩) (by assumption) ?r17x4
        case h17x4 => intro w hSw; (try dsimp only at hSw); go_simp; (try with_reducible rfl)
        try simp only [Act.put, List.setIfInBounds_toArray, List.set_cons_zero, List.set_cons_succ]
        refine wpAnyH_take (i := 18) (oi := ⟨some 6, _, _, _, _, _⟩) (v := ?v18x4) rfl (by kernel_rfl) (by kernel_rfl) (by kernel_rfl) (fun _ _ _ h => h) (Or.inl ⟨by rfl, ?h18x4⟩) (by assumption) ?r18x4
        case h18x4 => intro w hSw; (try dsimp only at hSw); go_simp; (try with_reducible rfl)
        try simp only [Act.put, List.setIfInBounds_toArray, List.set_cons_zero, List.set_cons_succ]
        refine wpAnyH_ready (rs := [19]) (by kernel_rfl) (by simp) ?_
        refine AllReadyH.cons (o := ⟨none, _, _, _, _, _⟩) rfl (fun K hK => ?_) AllReadyH.nil
        go_simp
        refine hK.out _ _ (by (try dsimp only); repeat (first | exact Keeps.refl _ _ | refine Keeps.drew ?_ | refine Keeps.drewN ?_ _ | refine Keeps.alloc ?_ _ | refine Keeps.setCell ?_ (by simp; try omega) _ | exact Hid.out (by assumption) | refine Keeps.trans ?_ (by assumption))) (fun hHeld => ?_)
        clear hK K
        try simp only [Act.put, List.setIfInBounds_toArray, List.set_cons_zero, List.set_cons_succ]
        refine wpAnyH_take (i := 20) (oi := ⟨some 8, _, _, _, _, _⟩) (v := ?v20x4) rfl (by kernel_rfl) (by kernel_rfl) (by kernel_rfl) (fun _ _ _ h => h) (Or.inl ⟨by rfl, ?h20x4⟩) (by assumption) ?r20x4
        case h20x4 => intro w hSw; (try dsimp only at hSw); go_simp; (try with_reducible rfl)
        try simp only [Act.put, List.setIfInBounds_toArray, List.set_cons_zero, List.set_cons_succ]
        refine wpAnyH_done (by kernel_rfl) ?_ _
        go_wp2_with fail
        go_meet
        refine ⟨_, rfl, rfl, rfl, rfl, hzB.set4 _ _ _ _, ?_, ?_⟩
        · first | omega | (simp; omega)
        · repeat (first | exact Keeps.refl _ _ | refine Keeps.drew ?_ | refine Keeps.drewN ?_ _ | refine Keeps.alloc ?_ _ | refine Keeps.setCell ?_ (by simp; try omega) _ | exact Hid.out (by assumption) | refine Keeps.trans ?_ (by assumption))
    · go_simp
      refine hK.out _ _ (by (try dsimp only); repeat (first | exact Keeps.refl _ _ | refine Keeps.drew ?_ | refine Keeps.drewN ?_ _ | refine Keeps.alloc ?_ _ | refine Keeps.setCell ?_ (by simp; try omega) _ | exact Hid.out (by assumption) | refine Keeps.trans ?_ (by assumption))) (fun hHeld => ?_)
      clear hK K
      try simp only [Act.put, List.setIfInBounds_toArray, List.set_cons_zero, List.set_cons_succ]
      refine wpAnyH_ready (rs := [5]) (by kernel_rfl) (by simp) ?_
      refine AllReadyH.cons (o := ⟨some 15, _, _, _, _, _⟩) rfl (fun K hK => ?_) AllReadyH.nil
      go_simp; (go_at_call 65; refine (HLen.out _ (HW0.out _ (by repeat (first | exact Keeps.refl _ _ | refine Keeps.drew ?_ | refine Keeps.drewN ?_ _ | refine Keeps.alloc ?_ _ | refine Keeps.setCell ?_ (by simp; try omega) _ | exact Hid.out (by assumption) | refine Keeps.trans ?_ (by assumption))))).mono ?_; rintro z w5 ⟨rfl, rfl⟩)
      refine hK.out _ _ (by (try dsimp only); repeat (first | exact Keeps.refl _ _ | refine Keeps.drew ?_ | refine Keeps.drewN ?_ _ | refine Keeps.alloc ?_ _ | refine Keeps.setCell ?_ (by simp; try omega) _ | exact Hid.out (by assumption) | refine Keeps.trans ?_ (by assumption))) (fun hHeld => ?_)
      clear hK K
      try simp only [Act.put, List.setIfInBounds_toArray, List.set_cons_zero, List.set_cons_succ]
      refine wpAnyH_ready (rs := [10]) (by kernel_rfl) (by simp) ?_
      refine AllReadyH.cons (o := ⟨some 20, _, _, _, _, _⟩) rfl (fun K hK => ?_) AllReadyH.nil
      go_simp; (go_at_call 64; refine (HFit.out _).mono ?_; rintro z w4 ⟨rfl, hs4⟩; dsimp only)
      refine hK.out _ _ (by (try dsimp only); repeat (first | exact Keeps.refl _ _ | refine Keeps.drew ?_ | refine Keeps.drewN ?_ _ | refine Keeps.alloc ?_ _ | refine Keeps.setCell ?_ (by simp; try omega) _ | exact Hid.out (by assumption) | refine Keeps.trans ?_ (by assumption))) (fun hHeld => ?_)
      clear hK K
      try simp only [Act.put, List.setIfInBounds_toArray, List.set_cons_zero, List.set_cons_succ]
      have hzB := Blk.keeps (t := 69) (Blk.drew (Blk.new_at (n := w0.heap.size) (cs := #[i6 0, i6 0, i6 0, i6 0]) (by simp))) hs4 (fun h => h); have hzl := hzB.lt; have hzb := hzB.four
      refine wpAnyH_take (i := 11) (oi := ⟨some 9, _, _, _, _, _⟩) (v := ?v11x5) rfl (by kernel_rfl) (by kernel_rfl) (by kernel_rfl) (fun _ _ _ h => h) (Or.inl ⟨by rfl, ?h11x5⟩) (by assumption) ?r11x5
      case h11x5 => intro w hSw; (try dsimp only at hSw); go_simp; (try with_reducible rfl)
      try simp only [Act.put, List.setIfInBounds_toArray, List.set_cons_zero, List.set_cons_succ]
      refine wpAnyH_take (i := 12) (oi := ⟨some 21, _, _, _, _, _⟩) (v := ?v12x5) rfl (by kernel_rfl) (by kernel_rfl) (by kernel_rfl) (fun _ _ _ h => h) (Or.inl ⟨by rfl, ?h12x5⟩) (by assumption) ?r12x5
      case h12x5 => intro w hSw; (try dsimp only at hSw); go_simp; (try with_reducible rfl)
      try simp only [Act.put, List.setIfInBounds_toArray, List.set_cons_zero, List.set_cons_succ]
      refine wpAnyH_take (i := 13) (oi := ⟨some 22, _, _, _, _, _⟩) (v := ?v13x5) rfl (by kernel_rfl) (by kernel_rfl) (by kernel_rfl) (fun _ _ _ h => h) (Or.inl ⟨by rfl, ?h13x5⟩) (by assumption) ?r13x5
      case h13x5 => intro w hSw; (try dsimp only at hSw); go_simp; (try with_reducible rfl)
      try simp only [Act.put, List.setIfInBounds_toArray, List.set_cons_zero, List.set_cons_succ]
      refine wpAnyH_take (i := 14) (oi := ⟨some 23, _, _, _, _, _⟩) (v := ?v14x5) rfl (by kernel_rfl) (by kernel_rfl) (by kernel_rfl) (fun _ _ _ h => h) (Or.inl ⟨by rfl, ?h14x5⟩) (by assumption) ?r14x5
      case h14x5 => intro w hSw; (try dsimp only at hSw); go_simp; (try with_reducible rfl)
      try simp only [Act.put, List.setIfInBounds_toArray, List.set_cons_zero, List.set_cons_succ]
      refine wpAnyH_take (i := 15) (oi := ⟨some 24, _, _, _, _, _⟩) (v := ?v15x5) rfl (by kernel_rfl) (by kernel_rfl) (by kernel_rfl) (fun _ _ _ h => h) (Or.inl ⟨by rfl, ?h15x5⟩) (by assumption) ?r15x5
      case h15x5 => intro w hSw; (try dsimp only at hSw); go_simp; (try with_reducible rfl)
      try simp only [Act.put, List.setIfInBounds_toArray, List.set_cons_zero, List.set_cons_succ]
      refine wpAnyH_take (i := 17) (oi := ⟨some 5, _, _, _, _, _⟩) (v := ?v17x5) rfl (by kernel_rfl) (by kernel_rfl) (by kernel_rfl) (fun _ _ _ h => h) (Or.inl ⟨by rfl, ?h17x5⟩) (by assumption) ?r17x5
      case h17x5 => intro w hSw; (try dsimp only at hSw); go_simp; (try with_reducible rfl)
      try simp only [Act.put, List.setIfInBounds_toArray, List.set_cons_zero, List.set_cons_succ]
      refine wpAnyH_take (i := 18) (oi := ⟨some 6, _, _, _, _, _⟩) (v := ?v18x5) rfl (by kernel_rfl) (by kernel_rfl) (by kernel_rfl) (fun _ _ _ h => h) (Or.inl ⟨by rfl, ?h18x5⟩) (by assumption) ?r18x5
      case h18x5 => intro w hSw; (try dsimp only at hSw); go_simp; (try with_reducible rfl)
      try simp only [Act.put, List.setIfInBounds_toArray, List.set_cons_zero, List.set_cons_succ]
      refine wpAnyH_ready (rs := [19]) (by kernel_rfl) (by simp) ?_
      refine AllReadyH.cons (o := ⟨none, _, _, _, _, _⟩) rfl (fun K hK => ?_) AllReadyH.nil
      go_simp
      refine hK.out _ _ (by (try dsimp only); repeat (first | exact Keeps.refl _ _ | refine Keeps.drew ?_ | refine Keeps.drewN ?_ _ | refine Keeps.alloc ?_ _ | refine Keeps.setCell ?_ (by simp; try omega) _ | exact Hid.out (by assumption) | refine Keeps.trans ?_ (by assumption))) (fun hHeld => ?_)
      clear hK K
      try simp only [Act.put, List.setIfInBounds_toArray, List.set_cons_zero, List.set_cons_succ]
      refine wpAnyH_take (i := 20) (oi := ⟨some 8, _, _, _, _, _⟩) (v := ?v20x5) rfl (by kernel_rfl) (by kernel_rfl) (by kernel_rfl) (fun _ _ _ h => h) (Or.inl ⟨by rfl, ?h20x5⟩) (by assumption) ?r20x5
      case h20x5 => intro w hSw; (try dsimp only at hSw); go_simp; (try with_reducible rfl)
      try simp only [Act.put, List.setIfInBounds_toArray, List.set_cons_zero, List.set_cons_succ]
      refine wpAnyH_done (by kernel_rfl) ?_ _
      go_wp2_with fail
      go_meet
      refine ⟨_, rfl, rfl, rfl, rfl, hzB.set4 _ _ _ _, ?_, ?_⟩
      · first | omega | (simp; omega)
      · repeat (first | exact Keeps.refl _ _ | refine Keeps.drew ?_ | refine Keeps.drewN ?_ _ | refine Keeps.alloc ?_ _ | refine Keeps.setCell ?_ (by simp; try omega) _ | exact Hid.out (by assumption) | refine Keeps.trans ?_ (by assumption))
  case rest =>
    obtain ⟨b7, rfl, rfl, rfl, rfl, hb7, hge7, hsx⟩ := hcut
    obtain ⟨wx, rfl⟩ : ∃ wx : World, wx = wc := ⟨_, rfl⟩
    have hsw : Same w wx := HB.out.2.2.trans hsx
    have hbB := HB.out.2.1.keeps hsx (fun h => h)
    have cB0 : wx.cell? ⟨B, 0, none⟩ = some (i6 kn) := hbB.cell 0
    have cB3 : wx.cell? ⟨B, 3, none⟩ = some (b8 py) := hbB.cell 3
    have e4 := (hsx.cell (p := ⟨φ0, 4, none⟩) hφl2 (fun h => h)).trans d4
    have HW := hid (HH.out.win.keeps hsw (fun _ _ h => h))
    have HMx := hid (HH.out.keeps hsw (fun _ h => h.elim) (fun h => h))
    have HX := hid (And.intro hsw (And.intro hbB (And.intro hb7 (And.intro hge7 hsx))))
    have HNW := hid (show ¬ winF L.wb q φ0 by rw [← HE.out.1]; exact HH.out.nwin 0 (used_small (by decide) (by decide)))
    have HNB := hid (show ¬ winF L.wb q B from fun e => by have h1 := HH.out.lt B (.inr (.inr e)); have h2 := HB.out.1; omega)
    have hNb : N ≤ 100000000 := by have := HF.out.2.2.2.2; rw [HE.out.2.2] at this; omega
    obtain ⟨text', htx⟩ : ∃ t, (if (kn : Int) = 1 then S.text ++ [py] else copyL S.text x0.toNat x1.toNat) = t := ⟨_, rfl⟩
    have HTx := hid htx
    clear hsw hbB hb7 hge7 hsx d4 d6 d7 d8 d9 hb0c htx c4 c5 c6 c7 c8 c9
    go_upto_block 0 with fail
    go_cut [8] (fun s8 w9 => s8 = .bool true ∧ ∃ q' cap', Win w9 L.wb L.most text' q' cap' ∧ Keeps (winF L.wb q) wx w9 ∧ (∀ k, winF L.wb q' k → winF L.wb q k ∨ wx.heap.size ≤ k))
    case first =>
      by_cases hk : kn = 1
      · have d0 : ((kn : Int) == 1) = true := by simp; omega
        have HK := hid hk
        clear hk
        go_upto_region 6 with fail
        refine wp_region_held_drew (S := (fun V => V.cell? ⟨φ0, 4, none⟩ = some (.pointer (some ⟨L.wb, 0, none⟩)) ∧ V.cell? ⟨B, 3, none⟩ = some (b8 py))) (by kernel_rfl) (by (try dsimp only); exact ⟨e4, cB3⟩) (fun hHeld => ?_)
        refine wpAnyH_take (i := 0) (oi := ⟨some 39, _, _, _, _, _⟩) (v := ?v0p) rfl (by kernel_rfl) (by kernel_rfl) (by kernel_rfl) (fun _ _ _ h => h) (Or.inl ⟨by rfl, ?h0p⟩) (by assumption) ?r0p
        case h0p => intro w hSw; (try dsimp only at hSw); go_simp; (try with_reducible rfl)
        try simp only [Act.put, List.setIfInBounds_toArray, List.set_cons_zero, List.set_cons_succ]
        refine wpAnyH_take (i := 1) (oi := ⟨some 40, _, _, _, _, _⟩) (v := ?v1p) rfl (by kernel_rfl) (by kernel_rfl) (by kernel_rfl) (fun _ _ _ h => h) (Or.inl ⟨by rfl, ?h1p⟩) (by assumption) ?r1p
        case h1p => intro w hSw; (try dsimp only at hSw); go_simp; (try with_reducible rfl)
        try simp only [Act.put, List.setIfInBounds_toArray, List.set_cons_zero, List.set_cons_succ]
        refine wpAnyH_take (i := 2) (oi := ⟨some 41, _, _, _, _, _⟩) (v := ?v2p) rfl (by kernel_rfl) (by kernel_rfl) (by kernel_rfl) (fun _ _ _ h => h) (Or.inl ⟨by rfl, ?h2p⟩) (by assumption) ?r2p
        case h2p => intro w hSw; (try dsimp only at hSw); go_simp; (try with_reducible rfl)
        try simp only [Act.put, List.setIfInBounds_toArray, List.set_cons_zero, List.set_cons_succ]
        refine wpAnyH_take (i := 3) (oi := ⟨some 42, _, _, _, _, _⟩) (v := ?v3p) rfl (by kernel_rfl) (by kernel_rfl) (by kernel_rfl) (fun _ _ _ h => h) (Or.inl ⟨by rfl, ?h3p⟩) (by assumption) ?r3p
        case h3p => intro w hSw; (try dsimp only at hSw); obtain ⟨hSw, hSw2⟩ := hSw; go_simp; (try with_reducible rfl)
        try simp only [Act.put, List.setIfInBounds_toArray, List.set_cons_zero, List.set_cons_succ]
        refine wpAnyH_take (i := 4) (oi := ⟨some 43, _, _, _, _, _⟩) (v := ?v4p) rfl (by kernel_rfl) (by kernel_rfl) (by kernel_rfl) (fun _ _ _ h => h) (Or.inl ⟨by rfl, ?h4p⟩) (by assumption) ?r4p
        case h4p => intro w hSw; (try dsimp only at hSw); go_simp; (try with_reducible rfl)
        try simp only [Act.put, List.setIfInBounds_toArray, List.set_cons_zero, List.set_cons_succ]
        refine wpAnyH_take (i := 5) (oi := ⟨some 44, _, _, _, _, _⟩) (v := ?v5p) rfl (by kernel_rfl) (by kernel_rfl) (by kernel_rfl) (fun _ _ _ h => h) (Or.inl ⟨by rfl, ?h5p⟩) (by assumption) ?r5p
        case h5p => intro w hSw; (try dsimp only at hSw); obtain ⟨hSw, hSw2⟩ := hSw; go_simp; (try with_reducible rfl)
        try simp only [Act.put, List.setIfInBounds_toArray, List.set_cons_zero, List.set_cons_succ]
        refine wpAnyH_ready (rs := [6]) (by kernel_rfl) (by simp) ?_
        refine AllReadyH.cons (o := ⟨some 45, _, _, _, _, _⟩) rfl (fun K hK => ?_) AllReadyH.nil
        go_simp; (go_at_call 90; refine (wput_yes L.wb L.most cap S.text q py _ (HW.out.keeps (S := fun _ => False) ((Keeps.refl _ _).drew) (fun _ _ h => h)) (by have := HF.out.2.2.1; have := HF.out.2.1; omega) (by rw [HE.out.2.2]; omega)).mono ?_; rintro z w9 ⟨rfl, q9, c9, hw9, hk9, hg9⟩; have m0 := (hk9.cell (p := ⟨φ0, 4, none⟩) (show φ0 < wx.drew.heap.size from Nat.lt_of_lt_of_le hφl2 HX.out.2.2.2.2.size) HNW.out).trans hHeld.1; have m1 := (hk9.cell (p := ⟨B, 3, none⟩) HX.out.2.1.drew.lt HNB.out).trans hHeld.2)
        refine hK.out _ _ (by (try dsimp only); exact ⟨m0, m1⟩) (fun hHeld => ?_)
        clear hK K
        try simp only [Act.put, List.setIfInBounds_toArray, List.set_cons_zero, List.set_cons_succ]
        refine wpAnyH_take (i := 7) (oi := ⟨some 8, _, _, _, _, _⟩) (v := ?v7p) rfl (by kernel_rfl) (by kernel_rfl) (by kernel_rfl) (fun _ _ _ h => h) (Or.inl ⟨by rfl, ?h7p⟩) (by assumption) ?r7p
        case h7p => intro w hSw; (try dsimp only at hSw); go_simp; (try with_reducible rfl)
        try simp only [Act.put, List.setIfInBounds_toArray, List.set_cons_zero, List.set_cons_succ]
        refine wpAnyH_done (by kernel_rfl) ?_ _
        go_wp2_with fail
        go_meet
        have ht := HTx.out
        rw [if_pos (by have := HK.out; omega)] at ht
        rw [← ht]
        exact ⟨rfl, q9, c9, hw9, (Keeps.refl _ wx).drew.trans hk9, hg9⟩
      · have d0 : ((kn : Int) == 1) = false := by simp; omega
        have HK := hid hk
        have hfar := HF.out.1 (by omega)
        have hn1 := HF.out.2.1
        have hrm := HF.out.2.2.1
        have hmo := HF.out.2.2.2.1
        have hNe := HE.out.2.2
        obtain ⟨m0, rfl⟩ : ∃ m : Nat, x0 = m := ⟨x0.toNat, by omega⟩
        obtain ⟨m1, rfl⟩ : ∃ m : Nat, x1 = m := ⟨x1.toNat, by omega⟩
        have HCo := hid (wcopy_yes L.wb L.most cap S.text q m0 m1 wx HW.out (by omega) (by omega) (by omega) (by omega) (by omega))
        clear hk hfar hn1 hrm hmo hNe
        go_wp2_with fail
        refine HCo.out.mono ?_
        rintro z w9 ⟨rfl, q9, c9, hw9, hk9, hg9⟩
        have H9 := hid (And.intro hw9 (And.intro hk9 hg9))
        clear hw9 hk9 hg9
        go_wp2_with fail
        go_meet
        have ht := HTx.out
        rw [if_neg (by have := HK.out; omega)] at ht
        rw [Int.toNat_natCast, Int.toNat_natCast] at ht
        rw [← ht]
        exact ⟨rfl, q9, c9, H9.out.1, H9.out.2.1, H9.out.2.2⟩
    case rest =>
      obtain ⟨rfl, q', cap', hw', hk', hg'⟩ := hcut
      obtain ⟨wy, rfl⟩ : ∃ wy : World, wy = wc := ⟨_, rfl⟩
      have hN7 : ¬ winF L.wb q b7 := fun e => by
        have h1 := HH.out.lt b7 (.inr (.inr e))
        have h2 := HB.out.1
        have h3 := HX.out.2.2.2.1
        omega
      have hb7 := HX.out.2.2.1.keeps hk' hN7
      have hb0 := (HMx.out.blk 0 (used_small (by decide) (by decide))).keeps hk' (by rw [HE.out.1]; exact HNW.out)
      have hbB := HX.out.2.1.keeps hk' HNB.out
      have hbeh := HMx.out.beh.keeps hk' HMx.out.n0.2.2
      rw [HE.out.1] at hb0
      have t5 : wy.cell? ⟨φ0, 5, none⟩ = some (i6 st) := (hb0.cell 5).trans (by rw [← HE.out.2.1]; rfl)
      have t6 : wy.cell? ⟨φ0, 6, none⟩ = some (i6 S.r0) := hb0.cell 6
      have t7 : wy.cell? ⟨φ0, 7, none⟩ = some (i6 S.r1) := hb0.cell 7
      have t8 : wy.cell? ⟨φ0, 8, none⟩ = some (i6 S.r2) := hb0.cell 8
      have t9 : wy.cell? ⟨φ0, 9, none⟩ = some (i6 S.r3) := hb0.cell 9
      have z5 := hb0.frozen 5
      have z6 := hb0.frozen 6
      have z7 := hb0.frozen 7
      have z8 := hb0.frozen 8
      have z9 := hb0.frozen 9
      have y0 := hb7.four
      have HY := hid (And.intro hw' (And.intro hk' (And.intro hg' (And.intro hb0 (And.intro hbB hbeh)))))
      clear hw' hk' hg' hb0 hbB hbeh hb7 hN7 e4 cB0 cB3
      go_upto_region 8 with fail
      obtain ⟨S4, hS4⟩ : ∃ S4 : MSt, ({ S with r0 := n0, r1 := n1, r2 := n2, r3 := n3 } : MSt) = S4 := ⟨_, rfl⟩
      have hrow : ((((cellsOf L S (P 0) 0).setIfInBounds 6 (i6 n0)).setIfInBounds 7 (i6 n1)).setIfInBounds 8 (i6 n2)).setIfInBounds 9 (i6 n3) = rowV (mcell L S4 (P 0)) 464 := by
        unfold cellsOf
        rw [if_pos rfl, mcell_r0, mcell_r1, mcell_r2, mcell_r3, ← hS4]
      have hbs := (((HY.out.2.2.2.1.set 6 (i6 n0)).set 7 (i6 n1)).set 8 (i6 n2)).set 9 (i6 n3)
      rw [hrow] at hbs
      have hks : Keeps (fun k => k = φ0) wy ((((wy.setCell ⟨φ0, 6, none⟩ (i6 n0)).setCell ⟨φ0, 7, none⟩ (i6 n1)).setCell ⟨φ0, 8, none⟩ (i6 n2)).setCell ⟨φ0, 9, none⟩ (i6 n3)) :=
        Keeps.setCell (p := ⟨φ0, 9, none⟩) (Keeps.setCell (p := ⟨φ0, 8, none⟩) (Keeps.setCell (p := ⟨φ0, 7, none⟩) (Keeps.setCell (p := ⟨φ0, 6, none⟩) (Keeps.refl _ _) (fun _ => by simp) _) (fun _ => by simp) _) (fun _ => by simp) _) (fun _ => by simp) _
      generalize (((wy.setCell ⟨φ0, 6, none⟩ (i6 n0)).setCell ⟨φ0, 7, none⟩ (i6 n1)).setCell ⟨φ0, 8, none⟩ (i6 n2)).setCell ⟨φ0, 9, none⟩ (i6 n3) = ws at hbs hks ⊢
      have v5 : ws.cell? ⟨φ0, 5, none⟩ = some (i6 st) := (hbs.cell 5).trans (by rw [rowV_get _ (by decide), mcell_st, ← hS4]; show some (i6 (S.st : Int)) = _; rw [HE.out.2.1])
      have hbB := HY.out.2.2.2.2.1.keeps hks (by omega)
      have vB0 : ws.cell? ⟨B, 0, none⟩ = some (i6 kn) := hbB.cell 0
      have hbe := HY.out.2.2.2.2.2.keeps hks (fun e => HMx.out.n0.1 0 (used_small (by decide) (by decide)) (HE.out.1.trans e.symm))
      have z5 := hbs.frozen 5
      have HZ := hid (And.intro hbs (And.intro hks (And.intro hbe hS4)))
      clear hrow hbs hks hbB hbe hS4 t5 t6 t7 t8 t9 z6 z7 z8 z9 y0
      refine wp_region_S (S := (fun V => V.cell? ⟨φ0, 5, none⟩ = some (i6 st) ∧ V.cell? ⟨B, 0, none⟩ = some (i6 kn))) 8 (by kernel_rfl) (by (try dsimp only); exact ⟨v5, vB0⟩) (fun hHeld => ?_)
      refine wpAnyS_take (i := 0) (oi := ⟨some 50, _, _, _, _, _⟩) (v := ?v0n) rfl (by kernel_rfl) (by kernel_rfl) (by kernel_rfl) (by kernel_rfl) (fun _ _ _ h => h) (Or.inl ⟨by rfl, ?h0n⟩) (by assumption) ?r0n
      case h0n => intro w hSw; (try dsimp only at hSw); go_simp; (try with_reducible rfl)
      try simp only [Act.put, List.setIfInBounds_toArray, List.set_cons_zero, List.set_cons_succ]
      refine wpAnyS_take (i := 1) (oi := ⟨some 51, _, _, _, _, _⟩) (v := ?v1n) rfl (by kernel_rfl) (by kernel_rfl) (by kernel_rfl) (by kernel_rfl) (fun _ _ _ h => h) (Or.inl ⟨by rfl, ?h1n⟩) (by assumption) ?r1n
      case h1n => intro w hSw; (try dsimp only at hSw); go_simp; (try with_reducible rfl)
      try simp only [Act.put, List.setIfInBounds_toArray, List.set_cons_zero, List.set_cons_succ]
      refine wpAnyS_take (i := 2) (oi := ⟨some 52, _, _, _, _, _⟩) (v := ?v2n) rfl (by kernel_rfl) (by kernel_rfl) (by kernel_rfl) (by kernel_rfl) (fun _ _ _ h => h) (Or.inl ⟨by rfl, ?h2n⟩) (by assumption) ?r2n
      case h2n => intro w hSw; (try dsimp only at hSw); go_simp; (try with_reducible rfl)
      try simp only [Act.put, List.setIfInBounds_toArray, List.set_cons_zero, List.set_cons_succ]
      refine wpAnyS_take (i := 3) (oi := ⟨some 53, _, _, _, _, _⟩) (v := ?v3n) rfl (by kernel_rfl) (by kernel_rfl) (by kernel_rfl) (by kernel_rfl) (fun _ _ _ h => h) (Or.inl ⟨by rfl, ?h3n⟩) (by assumption) ?r3n
      case h3n => intro w hSw; (try dsimp only at hSw); go_simp; (try with_reducible rfl)
      try simp only [Act.put, List.setIfInBounds_toArray, List.set_cons_zero, List.set_cons_succ]
      refine wpAnyS_take (i := 4) (oi := ⟨some 54, _, _, _, _, _⟩) (v := ?v4n) rfl (by kernel_rfl) (by kernel_rfl) (by kernel_rfl) (by kernel_rfl) (fun _ _ _ h => h) (Or.inl ⟨by rfl, ?h4n⟩) (by assumption) ?r4n
      case h4n => intro w hSw; (try dsimp only at hSw); obtain ⟨hSw, hSw2⟩ := hSw; go_simp; (try with_reducible rfl)
      try simp only [Act.put, List.setIfInBounds_toArray, List.set_cons_zero, List.set_cons_succ]
      refine wpAnyS_take (i := 5) (oi := ⟨some 55, _, _, _, _, _⟩) (v := ?v5n) rfl (by kernel_rfl) (by kernel_rfl) (by kernel_rfl) (by kernel_rfl) (fun _ _ _ h => h) (Or.inl ⟨by rfl, ?h5n⟩) (by assumption) ?r5n
      case h5n => intro w hSw; (try dsimp only at hSw); go_simp; (try with_reducible rfl)
      try simp only [Act.put, List.setIfInBounds_toArray, List.set_cons_zero, List.set_cons_succ]
      refine wpAnyS_take (i := 6) (oi := ⟨some 56, _, _, _, _, _⟩) (v := ?v6n) rfl (by kernel_rfl) (by kernel_rfl) (by kernel_rfl) (by kernel_rfl) (fun _ _ _ h => h) (Or.inl ⟨by rfl, ?h6n⟩) (by assumption) ?r6n
      case h6n => intro w hSw; (try dsimp only at hSw); obtain ⟨hSw, hSw2⟩ := hSw; go_simp; (try with_reducible rfl)
      try simp only [Act.put, List.setIfInBounds_toArray, List.set_cons_zero, List.set_cons_succ]
      refine wpAnyS_one (i := 7) (o := ⟨some 57, _, _, _, _, _⟩) rfl (by kernel_rfl) (fun K hK => ?_)
      go_simp; (go_at_call 92; refine (HNx.out _ (HZ.out.2.2.1.keeps (S := fun _ => False) ((Keeps.refl _ _).drew) (fun h => h))).mono ?_; rintro z w5 ⟨rfl, hw5⟩; obtain rfl := hw5.symm)
      refine hK.out _ _ (fun _ => by (try dsimp only); exact hHeld) ?_
      clear hK K
      try simp only [Act.put, List.setIfInBounds_toArray, List.set_cons_zero, List.set_cons_succ]
      refine wpAnyS_one (i := 8) (o := ⟨some 58, _, _, _, _, _⟩) rfl (by kernel_rfl) (fun K hK => ?_)
      go_simp
      refine hK.out _ _ (fun h => absurd h (by decide)) ?_
      clear hK K
      try simp only [Act.put, List.setIfInBounds_toArray, List.set_cons_zero, List.set_cons_succ]
      refine wpAnyS_one (i := 9) (o := ⟨some 59, _, _, _, _, _⟩) rfl (by kernel_rfl) (fun K hK => ?_)
      go_simp
      refine hK.out _ _ (fun h => absurd h (by decide)) ?_
      clear hK K
      try simp only [Act.put, List.setIfInBounds_toArray, List.set_cons_zero, List.set_cons_succ]
      refine wpAnyS_one (i := 10) (o := ⟨none, _, _, _, _, _⟩) rfl (by kernel_rfl) (fun K hK => ?_)
      go_simp
      refine hK.out _ _ (fun h => absurd h (by decide)) ?_
      clear hK K
      try simp only [Act.put, List.setIfInBounds_toArray, List.set_cons_zero, List.set_cons_succ]
      refine wpAnyS_done (by kernel_rfl) ?_ _
      go_wp2_with fail
      go_ret
      obtain ⟨hbs, hks, hbe, hS4⟩ := HZ.out
      have hkf : Keeps (fun k => k = φ0) wy (ws.setCell ⟨φ0, 5, none⟩ (i6 (nextS st kn))).drew := Keeps.drew (Keeps.setCell (p := ⟨φ0, 5, none⟩) hks (fun _ => by simp) _)
      have hbf := (hbs.set 5 (i6 (nextS st kn))).drew
      rw [mcell_st'] at hbf
      have hK : Keeps (fun b => b = L.φ 0 ∨ winF L.wb q b) w (ws.setCell ⟨φ0, 5, none⟩ (i6 (nextS st kn))).drew :=
        ((Keeps.of_same HX.out.1).trans (HY.out.2.1.mono fun b _ hb => .inr hb)).trans (hkf.mono fun b _ hb => .inl (hb.trans HE.out.1.symm))
      have hG : ∀ k, winF L.wb q' k → winF L.wb q k ∨ w.heap.size ≤ k := fun k hk => (HY.out.2.2.1 k hk).imp id fun h => Nat.le_trans HX.out.1.size h
      have hNq : ¬ winF L.wb q' φ0 := fun e => by
        rcases hG _ e with h | h
        · exact HNW.out h
        · have := HB.out.1; omega
      have hS' := HS.out
      rw [HTx.out, HE.out.2.1] at hS'
      have hlen : text'.length ≤ 100000000 := by
        rw [← HTx.out]
        have h1 := HF.out.2.2.1
        have h2 := HF.out.2.2.2.1
        have h3 := HF.out.2.1
        split
        · rw [List.length_append]; show S.text.length + 1 ≤ _; omega
        · rw [copyL_length]; omega
      refine ⟨rfl, q', cap', ?_, hK, hG⟩
      rw [← hS']
      refine HH.out.told hK ?_ (HY.out.1.keeps hkf fun b hb e => hNq (by subst e; exact hb)) hG ⟨nextS_lt (by have := HE.out; omega) (by have := HK14.out; omega) (by have := HK14.out; omega), hlen⟩
      rw [HE.out.1]
      unfold cellsOf
      rw [if_pos rfl]
      rw [← hS4] at hbf
      exact hbf
end Go.Proofs.YtalopgbkjgjppaaGreatDoor
