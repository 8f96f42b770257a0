/- The walk of lzdec's packets. -/
import Derived.Test.YtalopgbkjgjppaaGreatDoorGMt
import Derived.Deep.CutBlock
namespace Go.Proofs.YtalopgbkjgjppaaGreatDoor
open Go.RowKit Go.Cas Go.Cas.Enc

/-- What a decoder gets: a packet, or the end. -/
theorem get_again (w : World) (L : Lay) (S S2 : MSt) (P : Prb) (q : Option Addr) (cap x : Nat) (D : Dec) (F : Nat → Prop) (p : Pk) (ge : Bool) (D2 : Dec) (P2 : Prb) (h : MC w L S P q cap x (.dec D) F) (hp : gotP L S (.dec D, P) = p) (he : gotE L S (.dec D, P) = ge)
    (hr : ge = false → Room L S p) (hg : (getP L S (.dec D, P)).2 = (.dec D2, P2)) (hS : S2 = if ge = true then S else tellS S p) :
    Calls Tryz.prog 95 #[.pointer (some ⟨L.φ 0, 0, none⟩), .pointer (some ⟨x, 0, none⟩)] w fun z w' =>
      z = .returned (.tuple #[pk p.k p.d p.l (p.y.toNat : Int), .bool ge, .bool true]) ∧ LeftM w w' L S2 x (fun b => MF L q b ∨ F b) (.dec D2, P2) := by
  have H := mget_any w L S P q cap x D F h (fun e => by rw [hp]; exact hr (he.symm.trans e))
  rw [hp, he, hg, ← hS] at H
  exact H

def slN : Value → Nat
  | .slice _ n _ => n
  | _ => 0

set_option maxHeartbeats 8000000 in
set_option maxRecDepth 100000 in
theorem packetsN_any (w : World) (L : Lay) (x y : Nat) (S : MSt) (D : Dec) (P : Prb) (q : Option Addr) (cap : Nat) (F : Nat → Prop) (l : List Pk) (D' : Dec) (P' : Prb) (hM : MC w L S P q cap x (.dec D) F)
    (hbox : Blk w y #[.pointer (some ⟨L.φ 0, 0, none⟩), .pointer (some ⟨x, 0, none⟩)] 86) (hy : ¬ (MF L q y ∨ F y)) (hG : GetsL L S l D P D' P') (hln : l.length ≤ 100000000)
    (hn : L.most = (tellL S l).text.length) (hfin : D'.bad = false ∧ D'.rest = [] ∧ D'.code = 0) :
    Calls Tryz.prog 70 #[.pointer (some ⟨y, 0, none⟩), i6 L.most] w fun z w' =>
      ∃ q2 c2 D2 P2 q' cap' F', z = .returned (.tuple #[.slice q2 l.length c2, .bool true]) ∧ DAt w w' (fun b => MF L q b ∨ F b) L x y (tellL S l) D2 P2 q2 c2 l q' cap' F' := by
  obtain ⟨i0, HI⟩ := info_hid Tryz.infoP'
  have hD0 : DAt w w (fun b => MF L q b ∨ F b) L x y S D P none 0 [] q cap F := ⟨hM, fun b hb => .inl hb, Keeps.refl _ _, hbox, ⟨hy, by simp [sblk]⟩, ⟨World.ownsRow_nil _ _ _ _⟩, fun b hb => by simp [sblk] at hb, hM.mm.beh.1⟩
  obtain ⟨G0, hG0⟩ : ∃ G0, (fun b => MF L q b ∨ F b) = G0 := ⟨_, rfl⟩
  rw [hG0] at hD0 ⊢
  obtain ⟨N, hN⟩ : ∃ N, l.length = N := ⟨_, rfl⟩
  have hN2 : N ≤ 100000000 := by omega
  obtain ⟨φ0, hφ0⟩ : ∃ φ0, L.φ 0 = φ0 := ⟨_, rfl⟩
  obtain ⟨M, hMo⟩ : ∃ M, L.most = M := ⟨_, rfl⟩
  have hml : M ≤ 100000000 := by
    rw [← hMo]
    cases l with
    | nil => rw [hn]; exact hM.mm.par.2.2.2
    | cons p l => obtain ⟨_, _, _, _, _, _, h5, _⟩ := hG; exact h5.2.2.2.2.2.2
  obtain ⟨Z, hZ⟩ : ∃ Z, tellL S l = Z := ⟨_, rfl⟩
  rw [hZ] at hn ⊢
  rw [hMo, hN]
  have HX := hid (And.intro hN (And.intro hφ0 (And.intro hMo (And.intro hn hfin))))
  have HD0 := hid (And.intro hD0 (And.intro hG hZ))
  clear hM hbox hy hG hln hn hfin hG0 hD0 hN hφ0 hMo hZ
  have d0 : decide ((M : Int) < 0) = false := by simp
  go_enter Tryz.func70, Tryz.ntmps70
  go_wp2_with fail
  go_loopw [6] (fun s6 wr => ∃ k q2 c2 S1 D1 P1 q1 cap1 F1, k ≤ N ∧ s6 = .slice q2 k c2 ∧ DAt w wr G0 L x y S1 D1 P1 q2 c2 (l.take k) q1 cap1 F1 ∧ GetsL L S1 (l.drop k) D1 P1 D' P' ∧ tellL S1 (l.drop k) = Z) (fun s6 _ => N - slN s6)
  case atStart => exact ⟨0, none, 0, S, D, P, q, cap, F, Nat.zero_le _, rfl, HD0.out⟩
  case round =>
    clear HD0
    obtain ⟨k, q2, c2, S1, D1, P1, q1, cap1, F1, hk, rfl, hA, hGe, hT⟩ := hrel
    have y0 := hA.box.cell 0
    have y1 := hA.box.cell 1
    simp only [List.getElem?_toArray, List.getElem?_cons_zero, List.getElem?_cons_succ] at y0 y1
    rw [HX.out.2.1] at y0
    have HLen := hid (mlen_any wr L S1 P1 q1 cap1 hA.mc.mm)
    rw [HX.out.2.1] at HLen
    obtain ⟨n1, hn1⟩ : ∃ n1, S1.text.length = n1 := ⟨_, rfl⟩
    rw [hn1] at HLen
    by_cases he : k = N
    · subst he
      have hdl : l.drop k = [] := List.drop_eq_nil_iff.2 (by have := HX.out.1; omega)
      have htl : l.take k = l := List.take_of_length_le (by have := HX.out.1; omega)
      rw [hdl] at hGe hT
      rw [htl] at hA
      obtain ⟨rfl, rfl⟩ := hGe
      have hTz : S1 = Z := hT
      subst hTz
      have d1 : decide ((n1 : Int) < (M : Int)) = false := by have := HX.out.2.2.2.1; have := HX.out.2.2.1; simp; omega
      have d2 : decide (n1 < M) = false := by have := HX.out.2.2.2.1; have := HX.out.2.2.1; simp; omega
      have hcm := hA.mc.cm
      have hD : Dcw wr x D' := hcm.1
      have HDone := hid (ddone_any x D' wr hD)
      have HBad := hid (dbad_any x D' wr hD)
      obtain ⟨f1, f2, f3⟩ := HX.out.2.2.2.2
      have e1 : (D'.rest.isEmpty && D'.code == 0) = true := by rw [f2, f3]; rfl
      rw [e1] at HDone
      rw [f1] at HBad
      have HA := hid hA
      clear hA hT hcm hD f1 f2 f3 e1 hdl htl hn1
      go_wp2_with (go_at_call 94; refine HLen.out.mono ?_; rintro z w5 ⟨rfl, rfl⟩)
      go_wp2_with (first | (go_at_call 97; refine HDone.out.mono ?_; rintro z w5 ⟨rfl, rfl⟩) | (go_at_call 96; refine HBad.out.mono ?_; rintro z w5 ⟨rfl, rfl⟩))
      go_ret2
      exact ⟨q2, c2, D', P', q1, cap1, F1, rfl, HA.out⟩
    · have hkl : k < l.length := by have := HX.out.1; omega
      have hdrop : l.drop k = l[k] :: l.drop (k + 1) := List.drop_eq_getElem_cons hkl
      have htake : l.take (k + 1) = l.take k ++ [l[k]] := by simp
      rw [hdrop] at hGe hT
      generalize l[k] = p at *
      obtain ⟨D2, P2, g1, g2, g3, g4, g5, g6⟩ := hGe
      have hlt : k < N := by omega
      have d1 : decide ((n1 : Int) < (M : Int)) = true := by
        have h1 := g5.2.2.2.2
        have h2 := HX.out.2.2.1
        rw [hn1] at h1
        simp; omega
      have d2 : decide (n1 < M) = true := by simpa using d1
      have HGet := hid (fun w0 (hm : MC w0 L S1 P1 q1 cap1 x (.dec D1) F1) => get_again w0 L S1 (tellS S1 p) P1 q1 cap1 x D1 F1 p false D2 P2 hm g1 g2 (fun _ => g5) g3 rfl)
      rw [HX.out.2.1] at HGet
      obtain ⟨S2, hS2⟩ : ∃ S2, tellS S1 p = S2 := ⟨_, rfl⟩
      rw [hS2] at HGet g6
      have hT2 : tellL S2 (l.drop (k + 1)) = Z := by rw [← hS2]; exact hT
      have HT := hid (And.intro g4 (And.intro g6 (And.intro hT2 htake)))
      obtain ⟨pk_, pd, pl, py⟩ := p
      dsimp only at HGet
      have hyl := hA.box.lt
      have HA := hid hA
      clear hA hT hdrop htake g1 g2 g3 g4 g5 g6 hS2 hT2 hn1 he hkl
      obtain ⟨wi, rfl⟩ : ∃ wi : World, wi = wr := ⟨_, rfl⟩
      go_upto_region 3 with (go_at_call 94; refine HLen.out.mono ?_; rintro z w5 ⟨rfl, rfl⟩)
      go_cut [7, 8, 9] (fun s7 s8 s9 wx => ∃ b7 q3 cap3 F3, s7 = .pointer (some ⟨b7, 0, none⟩) ∧ s8 = .bool false ∧ s9 = .bool true ∧ Blk wx b7 #[i6 pk_, i6 pd, i6 pl, b8 py] PkT ∧ DAt w wx G0 L x y S2 D2 P2 q2 c2 (l.take k) q3 cap3 F3)
      case first =>
        refine wp_region_held_drew (S := (fun V => V.cell? ⟨y, 0, none⟩ = some (.pointer (some ⟨φ0, 0, none⟩)) ∧ V.cell? ⟨y, 1, none⟩ = some (.pointer (some ⟨x, 0, none⟩)))) (by kernel_rfl) (by (try dsimp only); exact ⟨y0, y1⟩) (fun hHeld => ?_)
        refine wpAnyH_take (i := 0) (oi := ⟨some 22, _, _, _, _, _⟩) (v := ?v0x1) rfl (by kernel_rfl) (by kernel_rfl) (by kernel_rfl) (fun _ _ _ h => h) (Or.inl ⟨by rfl, ?h0x1⟩) (by assumption) ?r0x1
        case h0x1 => intro w hSw; (try dsimp only at hSw); go_simp; (try with_reducible rfl)
        try simp only [Act.put, List.setIfInBounds_toArray, List.set_cons_zero, List.set_cons_succ]
        refine wpAnyH_take (i := 1) (oi := ⟨some 23, _, _, _, _, _⟩) (v := ?v1x1) rfl (by kernel_rfl) (by kernel_rfl) (by kernel_rfl) (fun _ _ _ h => h) (Or.inl ⟨by rfl, ?h1x1⟩) (by assumption) ?r1x1
        case h1x1 => intro w hSw; (try dsimp only at hSw); go_simp; (try with_reducible rfl)
        try simp only [Act.put, List.setIfInBounds_toArray, List.set_cons_zero, List.set_cons_succ]
        refine wpAnyH_take (i := 2) (oi := ⟨some 24, _, _, _, _, _⟩) (v := ?v2x1) rfl (by kernel_rfl) (by kernel_rfl) (by kernel_rfl) (fun _ _ _ h => h) (Or.inl ⟨by rfl, ?h2x1⟩) (by assumption) ?r2x1
        case h2x1 => intro w hSw; (try dsimp only at hSw); go_simp; (try with_reducible rfl)
        try simp only [Act.put, List.setIfInBounds_toArray, List.set_cons_zero, List.set_cons_succ]
        refine wpAnyH_take (i := 3) (oi := ⟨some 25, _, _, _, _, _⟩) (v := ?v3x1) rfl (by kernel_rfl) (by kernel_rfl) (by kernel_rfl) (fun _ _ _ h => h) (Or.inl ⟨by rfl, ?h3x1⟩) (by assumption) ?r3x1
        case h3x1 => intro w hSw; (try dsimp only at hSw); have hSw1 := hSw.1; go_simp; (try with_reducible rfl)
        try simp only [Act.put, List.setIfInBounds_toArray, List.set_cons_zero, List.set_cons_succ]
        refine wpAnyH_take (i := 4) (oi := ⟨some 26, _, _, _, _, _⟩) (v := ?v4x1) rfl (by kernel_rfl) (by kernel_rfl) (by kernel_rfl) (fun _ _ _ h => h) (Or.inl ⟨by rfl, ?h4x1⟩) (by assumption) ?r4x1
        case h4x1 => intro w hSw; (try dsimp only at hSw); go_simp; (try with_reducible rfl)
        try simp only [Act.put, List.setIfInBounds_toArray, List.set_cons_zero, List.set_cons_succ]
        refine wpAnyH_take (i := 5) (oi := ⟨some 27, _, _, _, _, _⟩) (v := ?v5x1) rfl (by kernel_rfl) (by kernel_rfl) (by kernel_rfl) (fun _ _ _ h => h) (Or.inl ⟨by rfl, ?h5x1⟩) (by assumption) ?r5x1
        case h5x1 => intro w hSw; (try dsimp only at hSw); go_simp; (try with_reducible rfl)
        try simp only [Act.put, List.setIfInBounds_toArray, List.set_cons_zero, List.set_cons_succ]
        refine wpAnyH_take (i := 6) (oi := ⟨some 28, _, _, _, _, _⟩) (v := ?v6x1) rfl (by kernel_rfl) (by kernel_rfl) (by kernel_rfl) (fun _ _ _ h => h) (Or.inl ⟨by rfl, ?h6x1⟩) (by assumption) ?r6x1
        case h6x1 => intro w hSw; (try dsimp only at hSw); go_simp; (try with_reducible rfl)
        try simp only [Act.put, List.setIfInBounds_toArray, List.set_cons_zero, List.set_cons_succ]
        refine wpAnyH_take (i := 7) (oi := ⟨some 29, _, _, _, _, _⟩) (v := ?v7x1) rfl (by kernel_rfl) (by kernel_rfl) (by kernel_rfl) (fun _ _ _ h => h) (Or.inl ⟨by rfl, ?h7x1⟩) (by assumption) ?r7x1
        case h7x1 => intro w hSw; (try dsimp only at hSw); have hSw2 := hSw.2; go_simp; (try with_reducible rfl)
        try simp only [Act.put, List.setIfInBounds_toArray, List.set_cons_zero, List.set_cons_succ]
        refine wpAnyH_ready (rs := [8, 13]) (by kernel_rfl) (by simp) ?_
        refine AllReadyH.cons (o := ⟨some 30, _, _, _, _, _⟩) rfl (fun K hK => ?_) (AllReadyH.cons (o := ⟨some 7, _, _, _, _, _⟩) rfl (fun K hK => ?_) AllReadyH.nil)
        · go_simp; (go_at_call 95; have hal : Same w5 w5.drew := (Keeps.drew (Keeps.refl _ _)); refine (HGet.out _ (HA.out.mc.same hal)).mono ?_; rintro z w3 ⟨rfl, hl3⟩; obtain ⟨q3, cap3, F3, hD3, _⟩ := HA.out.get hal hl3; have m0 := hD3.box.cell 0; have m1 := hD3.box.cell 1; simp only [List.getElem?_toArray, List.getElem?_cons_zero, List.getElem?_cons_succ] at m0 m1; rw [HX.out.2.1] at m0)
          refine hK.out _ _ (by (try dsimp only); exact ⟨m0, m1⟩) (fun hHeld => ?_)
          clear hK K
          try simp only [Act.put, List.setIfInBounds_toArray, List.set_cons_zero, List.set_cons_succ]
          refine wpAnyH_take (i := 9) (oi := ⟨some 21, _, _, _, _, _⟩) (v := ?v9x2) rfl (by kernel_rfl) (by kernel_rfl) (by kernel_rfl) (fun _ _ _ h => h) (Or.inl ⟨by rfl, ?h9x2⟩) (by assumption) ?r9x2
          case h9x2 => intro w hSw; (try dsimp only at hSw); go_simp; (try with_reducible rfl)
          try simp only [Act.put, List.setIfInBounds_toArray, List.set_cons_zero, List.set_cons_succ]
          refine wpAnyH_take (i := 10) (oi := ⟨some 31, _, _, _, _, _⟩) (v := ?v10x2) rfl (by kernel_rfl) (by kernel_rfl) (by kernel_rfl) (fun _ _ _ h => h) (Or.inl ⟨by rfl, ?h10x2⟩) (by assumption) ?r10x2
          case h10x2 => intro w hSw; (try dsimp only at hSw); go_simp; (try with_reducible rfl)
          try simp only [Act.put, List.setIfInBounds_toArray, List.set_cons_zero, List.set_cons_succ]
          refine wpAnyH_take (i := 11) (oi := ⟨some 32, _, _, _, _, _⟩) (v := ?v11x2) rfl (by kernel_rfl) (by kernel_rfl) (by kernel_rfl) (fun _ _ _ h => h) (Or.inl ⟨by rfl, ?h11x2⟩) (by assumption) ?r11x2
          case h11x2 => intro w hSw; (try dsimp only at hSw); go_simp; (try with_reducible rfl)
          try simp only [Act.put, List.setIfInBounds_toArray, List.set_cons_zero, List.set_cons_succ]
          refine wpAnyH_take (i := 12) (oi := ⟨some 33, _, _, _, _, _⟩) (v := ?v12x2) rfl (by kernel_rfl) (by kernel_rfl) (by kernel_rfl) (fun _ _ _ h => h) (Or.inl ⟨by rfl, ?h12x2⟩) (by assumption) ?r12x2
          case h12x2 => intro w hSw; (try dsimp only at hSw); go_simp; (try with_reducible rfl)
          try simp only [Act.put, List.setIfInBounds_toArray, List.set_cons_zero, List.set_cons_succ]
          refine wpAnyH_ready (rs := [13]) (by kernel_rfl) (by simp) ?_
          refine AllReadyH.cons (o := ⟨some 7, _, _, _, _, _⟩) rfl (fun K hK => ?_) AllReadyH.nil
          go_simp
          refine hK.out _ _ (by (try dsimp only); exact ⟨(((Keeps.refl (fun _ => False) _).alloc _).cell (p := ⟨y, 0, none⟩) (by first | exact hyl | exact hD3.box.lt | (simp; omega)) (fun h => h)).trans hHeld.1, (((Keeps.refl (fun _ => False) _).alloc _).cell (p := ⟨y, 1, none⟩) (by first | exact hyl | exact hD3.box.lt | (simp; omega)) (fun h => h)).trans hHeld.2⟩) (fun hHeld => ?_)
          clear hK K
          try simp only [Act.put, List.setIfInBounds_toArray, List.set_cons_zero, List.set_cons_succ]
          refine wpAnyH_ready (rs := [14]) (by kernel_rfl) (by simp) ?_
          refine AllReadyH.cons (o := ⟨none, _, _, _, _, _⟩) rfl (fun K hK => ?_) AllReadyH.nil
          go_simp
          refine hK.out _ _ (by (try dsimp only); exact ⟨(((Keeps.refl (fun _ => False) _).alloc _).cell (p := ⟨y, 0, none⟩) hD3.box.lt (fun h => h)).trans m0, (((Keeps.refl (fun _ => False) _).alloc _).cell (p := ⟨y, 1, none⟩) hD3.box.lt (fun h => h)).trans m1⟩) (fun hHeld => ?_)
          clear hK K
          try simp only [Act.put, List.setIfInBounds_toArray, List.set_cons_zero, List.set_cons_succ]
          refine wpAnyH_take (i := 15) (oi := ⟨some 8, _, _, _, _, _⟩) (v := ?v15x2) rfl (by kernel_rfl) (by kernel_rfl) (by kernel_rfl) (fun _ _ _ h => h) (Or.inl ⟨by rfl, ?h15x2⟩) (by assumption) ?r15x2
          case h15x2 => intro w hSw; (try dsimp only at hSw); go_simp; (try with_reducible rfl)
          try simp only [Act.put, List.setIfInBounds_toArray, List.set_cons_zero, List.set_cons_succ]
          refine wpAnyH_take (i := 16) (oi := ⟨some 9, _, _, _, _, _⟩) (v := ?v16x2) rfl (by kernel_rfl) (by kernel_rfl) (by kernel_rfl) (fun _ _ _ h => h) (Or.inl ⟨by rfl, ?h16x2⟩) (by assumption) ?r16x2
          case h16x2 => intro w hSw; (try dsimp only at hSw); go_simp; (try with_reducible rfl)
          try simp only [Act.put, List.setIfInBounds_toArray, List.set_cons_zero, List.set_cons_succ]
          refine wpAnyH_done (by kernel_rfl) ?_ _
          go_wp2_with fail
          go_meet
          exact ⟨w3.heap.size, q3, cap3, F3, rfl, rfl, rfl, Blk.new _ _ _, hD3.same ((Keeps.refl _ _).alloc _)⟩
        · go_simp
          refine hK.out _ _ (by (try dsimp only); exact ⟨(((Keeps.refl (fun _ => False) _).alloc _).cell (p := ⟨y, 0, none⟩) (by first | exact hyl | exact hD3.box.lt | (simp; omega)) (fun h => h)).trans hHeld.1, (((Keeps.refl (fun _ => False) _).alloc _).cell (p := ⟨y, 1, none⟩) (by first | exact hyl | exact hD3.box.lt | (simp; omega)) (fun h => h)).trans hHeld.2⟩) (fun hHeld => ?_)
          clear hK K
          try simp only [Act.put, List.setIfInBounds_toArray, List.set_cons_zero, List.set_cons_succ]
          refine wpAnyH_ready (rs := [8]) (by kernel_rfl) (by simp) ?_
          refine AllReadyH.cons (o := ⟨some 30, _, _, _, _, _⟩) rfl (fun K hK => ?_) AllReadyH.nil
          go_simp; (go_at_call 95; have hal : Same w5 (w5.drew.alloc (.cells #[i6 0, i6 0, i6 0, .int .u8 0] PkT)) := (Keeps.drew (Keeps.refl _ _)).alloc _; refine (HGet.out _ (HA.out.mc.same hal)).mono ?_; rintro z w3 ⟨rfl, hl3⟩; have hB3 := LeftM.blk HA.out hl3 (Nat.le_refl _) (Blk.new w5.drew _ _); obtain ⟨q3, cap3, F3, hD3, hN3⟩ := HA.out.get hal hl3; have hn7 := hN3 w5.heap.size (Nat.le_refl _) (by simp); have hb7c := hB3.four; have m0 := hD3.box.cell 0; have m1 := hD3.box.cell 1; simp only [List.getElem?_toArray, List.getElem?_cons_zero, List.getElem?_cons_succ] at m0 m1; rw [HX.out.2.1] at m0)
          refine hK.out _ _ (by (try dsimp only); exact ⟨m0, m1⟩) (fun hHeld => ?_)
          clear hK K
          try simp only [Act.put, List.setIfInBounds_toArray, List.set_cons_zero, List.set_cons_succ]
          have hD4 := hD3.set4 (b7 := w5.heap.size) HA.out.keeps.size hn7 (by omega) (fun e => by have := HA.out.lt.2.2 _ e; omega) (.int .i64 pk_) (.int .i64 pd) (.int .i64 pl) (.int .u8 py.toNat)
          have t0 := hD4.box.cell 0
          have t1 := hD4.box.cell 1
          simp only [List.getElem?_toArray, List.getElem?_cons_zero, List.getElem?_cons_succ] at t0 t1
          rw [HX.out.2.1] at t0
          refine wpAnyH_take (i := 9) (oi := ⟨some 21, _, _, _, _, _⟩) (v := ?v9x3) rfl (by kernel_rfl) (by kernel_rfl) (by kernel_rfl) (fun _ _ _ h => h) (Or.inl ⟨by rfl, ?h9x3⟩) (by assumption) ?r9x3
          case h9x3 => intro w hSw; (try dsimp only at hSw); go_simp; (try with_reducible rfl)
          try simp only [Act.put, List.setIfInBounds_toArray, List.set_cons_zero, List.set_cons_succ]
          refine wpAnyH_take (i := 10) (oi := ⟨some 31, _, _, _, _, _⟩) (v := ?v10x3) rfl (by kernel_rfl) (by kernel_rfl) (by kernel_rfl) (fun _ _ _ h => h) (Or.inl ⟨by rfl, ?h10x3⟩) (by assumption) ?r10x3
          case h10x3 => intro w hSw; (try dsimp only at hSw); go_simp; (try with_reducible rfl)
          try simp only [Act.put, List.setIfInBounds_toArray, List.set_cons_zero, List.set_cons_succ]
          refine wpAnyH_take (i := 11) (oi := ⟨some 32, _, _, _, _, _⟩) (v := ?v11x3) rfl (by kernel_rfl) (by kernel_rfl) (by kernel_rfl) (fun _ _ _ h => h) (Or.inl ⟨by rfl, ?h11x3⟩) (by assumption) ?r11x3
          case h11x3 => intro w hSw; (try dsimp only at hSw); go_simp; (try with_reducible rfl)
          try simp only [Act.put, List.setIfInBounds_toArray, List.set_cons_zero, List.set_cons_succ]
          refine wpAnyH_take (i := 12) (oi := ⟨some 33, _, _, _, _, _⟩) (v := ?v12x3) rfl (by kernel_rfl) (by kernel_rfl) (by kernel_rfl) (fun _ _ _ h => h) (Or.inl ⟨by rfl, ?h12x3⟩) (by assumption) ?r12x3
          case h12x3 => intro w hSw; (try dsimp only at hSw); go_simp; (try with_reducible rfl)
          try simp only [Act.put, List.setIfInBounds_toArray, List.set_cons_zero, List.set_cons_succ]
          refine wpAnyH_ready (rs := [14]) (by kernel_rfl) (by simp) ?_
          refine AllReadyH.cons (o := ⟨none, _, _, _, _, _⟩) rfl (fun K hK => ?_) AllReadyH.nil
          go_simp
          refine hK.out _ _ (by (try dsimp only); exact ⟨t0, t1⟩) (fun hHeld => ?_)
          clear hK K
          try simp only [Act.put, List.setIfInBounds_toArray, List.set_cons_zero, List.set_cons_succ]
          refine wpAnyH_take (i := 15) (oi := ⟨some 8, _, _, _, _, _⟩) (v := ?v15x3) rfl (by kernel_rfl) (by kernel_rfl) (by kernel_rfl) (fun _ _ _ h => h) (Or.inl ⟨by rfl, ?h15x3⟩) (by assumption) ?r15x3
          case h15x3 => intro w hSw; (try dsimp only at hSw); go_simp; (try with_reducible rfl)
          try simp only [Act.put, List.setIfInBounds_toArray, List.set_cons_zero, List.set_cons_succ]
          refine wpAnyH_take (i := 16) (oi := ⟨some 9, _, _, _, _, _⟩) (v := ?v16x3) rfl (by kernel_rfl) (by kernel_rfl) (by kernel_rfl) (fun _ _ _ h => h) (Or.inl ⟨by rfl, ?h16x3⟩) (by assumption) ?r16x3
          case h16x3 => intro w hSw; (try dsimp only at hSw); go_simp; (try with_reducible rfl)
          try simp only [Act.put, List.setIfInBounds_toArray, List.set_cons_zero, List.set_cons_succ]
          refine wpAnyH_done (by kernel_rfl) ?_ _
          go_wp2_with fail
          go_meet
          exact ⟨w5.heap.size, q3, cap3, F3, rfl, rfl, rfl, hB3.set4 _ _ _ _, hD4⟩
      case rest =>
        obtain ⟨b7, q3, cap3, F3, rfl, rfl, rfl, hb7, hA3⟩ := hcut
        obtain ⟨wx, rfl⟩ : ∃ wx : World, wx = wc := ⟨_, rfl⟩
        have x1 := hA3.box.cell 1
        simp only [List.getElem?_toArray, List.getElem?_cons_zero, List.getElem?_cons_succ] at x1
        have hD : Dcw wx x D2 := hA3.mc.cm.1
        have HBad := hid (dbad_any x D2 wx hD)
        rw [HT.out.1] at HBad
        obtain ⟨z0, z1, z2, z3⟩ := hb7.four
        have htl : (l.take k).length = k := by rw [List.length_take]; have := HX.out.1; omega
        have HA3 := hid (And.intro hA3 htl)
        have H1 := hid (show k + 1 ≤ maxLen by unfold maxLen; omega)
        have H2 := hid (show (k + 1) * 32 ≤ 140737488355328 by omega)
        have hpk := hA3.pks.own
        rw [htl] at hpk
        clear hA3 hD hb7 y0 y1 htl HA HLen HGet d1 d2
        go_wp2_with (first | (go_at_call 96; refine HBad.out.mono ?_; rintro z w6 ⟨rfl, rfl⟩) | (at_builtin; refine wpList_push _ rfl (.tmp 56) (.tmp 58) 28 rfl 39 i0 (.agg #[.int .i64 0, .int .i64 0, .int .i64 0, .int .u8 0]) 4 32 Tryz.underlying28 HI zP' (by decide) q2 k c2 (cellsP (l.take k)) ?_ ?_ ⟨w6.heap.size, 0, none⟩ 1 1 [i6 pk_, i6 pd, i6 pl, b8 py] ?_ rfl ?_ (pk_one' _ _ _ _) H1 H2 ?_; exact rfl; exact hpk.alloc _; exact rfl; exact cells_four_new' _ _ _ _ _ _; intro q5 c5 w7 hown hk7 hat _; have HR := hid (HA3.out.1.push (p := ⟨pk_, pd, pl, py⟩) ((Keeps.refl _ _).alloc _) (by rw [HA3.out.2]; exact hown) hk7 hat); clear hown hk7 hat))
        exact ⟨⟨k + 1, q5, c5, S2, D2, P2, q3, cap3, F3, by omega, rfl, by rw [HT.out.2.2.2]; exact HR.out, HT.out.2.1, HT.out.2.2.1⟩, by simp [slN]; omega⟩

set_option maxHeartbeats 8000000 in
set_option maxRecDepth 100000 in
theorem packetsE_any (w : World) (L : Lay) (x y : Nat) (S : MSt) (D : Dec) (P : Prb) (q : Option Addr) (cap : Nat) (F : Nat → Prop) (l : List Pk) (D' : Dec) (P' : Prb) (nI : Int) (hM : MC w L S P q cap x (.dec D) F)
    (hbox : Blk w y #[.pointer (some ⟨L.φ 0, 0, none⟩), .pointer (some ⟨x, 0, none⟩)] 86) (hy : ¬ (MF L q y ∨ F y)) (hG : GetsL L S l D P D' P') (hln : l.length ≤ 100000000)
    (hn : nI < 0) (DE : Dec) (PE : Prb) (hfin : gotE L (tellL S l) (.dec D', P') = true ∧ (getP L (tellL S l) (.dec D', P')).2 = (.dec DE, PE) ∧ DE.bad = false ∧ DE.rest = [] ∧ DE.code = 0) :
    Calls Tryz.prog 70 #[.pointer (some ⟨y, 0, none⟩), i6 nI] w fun z w' =>
      ∃ q2 c2 D2 P2 q' cap' F', z = .returned (.tuple #[.slice q2 l.length c2, .bool true]) ∧ DAt w w' (fun b => MF L q b ∨ F b) L x y (tellL S l) D2 P2 q2 c2 l q' cap' F' := by
  obtain ⟨i0, HI⟩ := info_hid Tryz.infoP'
  have hD0 : DAt w w (fun b => MF L q b ∨ F b) L x y S D P none 0 [] q cap F := ⟨hM, fun b hb => .inl hb, Keeps.refl _ _, hbox, ⟨hy, by simp [sblk]⟩, ⟨World.ownsRow_nil _ _ _ _⟩, fun b hb => by simp [sblk] at hb, hM.mm.beh.1⟩
  obtain ⟨G0, hG0⟩ : ∃ G0, (fun b => MF L q b ∨ F b) = G0 := ⟨_, rfl⟩
  rw [hG0] at hD0 ⊢
  obtain ⟨N, hN⟩ : ∃ N, l.length = N := ⟨_, rfl⟩
  have hN2 : N ≤ 100000000 := by omega
  obtain ⟨φ0, hφ0⟩ : ∃ φ0, L.φ 0 = φ0 := ⟨_, rfl⟩
  obtain ⟨Z, hZ⟩ : ∃ Z, tellL S l = Z := ⟨_, rfl⟩
  rw [hZ] at hfin ⊢
  rw [hN]
  have HX := hid (And.intro hN (And.intro hφ0 hfin))
  have HD0 := hid (And.intro hD0 (And.intro hG hZ))
  have d0 : decide (nI < 0) = true := by simpa using hn
  clear hM hbox hy hG hln hn hfin hG0 hD0 hN hφ0 hZ
  go_enter Tryz.func70, Tryz.ntmps70
  go_wp2_with fail
  go_loopw [6] (fun s6 wr => ∃ k q2 c2 S1 D1 P1 q1 cap1 F1, k ≤ N ∧ s6 = .slice q2 k c2 ∧ DAt w wr G0 L x y S1 D1 P1 q2 c2 (l.take k) q1 cap1 F1 ∧ GetsL L S1 (l.drop k) D1 P1 D' P' ∧ tellL S1 (l.drop k) = Z) (fun s6 _ => N - slN s6)
  case atStart => exact ⟨0, none, 0, S, D, P, q, cap, F, Nat.zero_le _, rfl, HD0.out⟩
  case round =>
    clear HD0
    obtain ⟨k, q2, c2, S1, D1, P1, q1, cap1, F1, hk, rfl, hA, hGe, hT⟩ := hrel
    have y0 := hA.box.cell 0
    have y1 := hA.box.cell 1
    simp only [List.getElem?_toArray, List.getElem?_cons_zero, List.getElem?_cons_succ] at y0 y1
    rw [HX.out.2.1] at y0
    by_cases he : k = N
    · subst he
      have hdl : l.drop k = [] := List.drop_eq_nil_iff.2 (by have := HX.out.1; omega)
      have htl : l.take k = l := List.take_of_length_le (by have := HX.out.1; omega)
      rw [hdl] at hGe hT
      obtain ⟨h1, h2⟩ := hGe
      have hTz : S1 = Z := hT
      obtain ⟨f1, f2, f3⟩ := HX.out.2.2
      rw [← hTz, h1, h2] at f1 f2
      obtain ⟨S2, hS2⟩ : ∃ S2, S1 = S2 := ⟨_, rfl⟩
      obtain ⟨p, hp⟩ : ∃ p, gotP L S1 (.dec D1, P1) = p := ⟨_, rfl⟩
      have HGet := hid (fun w0 (hm : MC w0 L S1 P1 q1 cap1 x (.dec D1) F1) => get_again w0 L S1 S2 P1 q1 cap1 x D1 F1 p true DE PE hm hp f1 (fun e => by cases e) f2 (by rw [← hS2]; rfl))
      rw [HX.out.2.1] at HGet
      have HT := hid (And.intro f3 (And.intro htl (hS2.symm.trans hTz)))
      obtain ⟨pk_, pd, pl, py⟩ := p
      dsimp only at HGet
      have hyl := hA.box.lt
      have HA := hid hA
      clear hA hT hp f1 f2 f3 h1 h2 hTz hS2 htl hdl
      obtain ⟨w5, rfl⟩ : ∃ w5 : World, w5 = wr := ⟨_, rfl⟩
      go_upto_region 3 with fail
      go_cut [7, 8, 9] (fun s7 s8 s9 wx => ∃ b7 q3 cap3 F3, s7 = .pointer (some ⟨b7, 0, none⟩) ∧ s8 = .bool true ∧ s9 = .bool true ∧ Blk wx b7 #[i6 pk_, i6 pd, i6 pl, b8 py] PkT ∧ DAt w wx G0 L x y S2 DE PE q2 c2 (l.take k) q3 cap3 F3)
      case first =>
        refine wp_region_held_drew (S := (fun V => V.cell? ⟨y, 0, none⟩ = some (.pointer (some ⟨φ0, 0, none⟩)) ∧ V.cell? ⟨y, 1, none⟩ = some (.pointer (some ⟨x, 0, none⟩)))) (by kernel_rfl) (by (try dsimp only); exact ⟨y0, y1⟩) (fun hHeld => ?_)
        refine wpAnyH_take (i := 0) (oi := ⟨some 22, _, _, _, _, _⟩) (v := ?v0y1) rfl (by kernel_rfl) (by kernel_rfl) (by kernel_rfl) (fun _ _ _ h => h) (Or.inl ⟨by rfl, ?h0y1⟩) (by assumption) ?r0y1
        case h0y1 => intro w hSw; (try dsimp only at hSw); go_simp; (try with_reducible rfl)
        try simp only [Act.put, List.setIfInBounds_toArray, List.set_cons_zero, List.set_cons_succ]
        refine wpAnyH_take (i := 1) (oi := ⟨some 23, _, _, _, _, _⟩) (v := ?v1y1) rfl (by kernel_rfl) (by kernel_rfl) (by kernel_rfl) (fun _ _ _ h => h) (Or.inl ⟨by rfl, ?h1y1⟩) (by assumption) ?r1y1
        case h1y1 => intro w hSw; (try dsimp only at hSw); go_simp; (try with_reducible rfl)
        try simp only [Act.put, List.setIfInBounds_toArray, List.set_cons_zero, List.set_cons_succ]
        refine wpAnyH_take (i := 2) (oi := ⟨some 24, _, _, _, _, _⟩) (v := ?v2y1) rfl (by kernel_rfl) (by kernel_rfl) (by kernel_rfl) (fun _ _ _ h => h) (Or.inl ⟨by rfl, ?h2y1⟩) (by assumption) ?r2y1
        case h2y1 => intro w hSw; (try dsimp only at hSw); go_simp; (try with_reducible rfl)
        try simp only [Act.put, List.setIfInBounds_toArray, List.set_cons_zero, List.set_cons_succ]
        refine wpAnyH_take (i := 3) (oi := ⟨some 25, _, _, _, _, _⟩) (v := ?v3y1) rfl (by kernel_rfl) (by kernel_rfl) (by kernel_rfl) (fun _ _ _ h => h) (Or.inl ⟨by rfl, ?h3y1⟩) (by assumption) ?r3y1
        case h3y1 => intro w hSw; (try dsimp only at hSw); have hSw1 := hSw.1; go_simp; (try with_reducible rfl)
        try simp only [Act.put, List.setIfInBounds_toArray, List.set_cons_zero, List.set_cons_succ]
        refine wpAnyH_take (i := 4) (oi := ⟨some 26, _, _, _, _, _⟩) (v := ?v4y1) rfl (by kernel_rfl) (by kernel_rfl) (by kernel_rfl) (fun _ _ _ h => h) (Or.inl ⟨by rfl, ?h4y1⟩) (by assumption) ?r4y1
        case h4y1 => intro w hSw; (try dsimp only at hSw); go_simp; (try with_reducible rfl)
        try simp only [Act.put, List.setIfInBounds_toArray, List.set_cons_zero, List.set_cons_succ]
        refine wpAnyH_take (i := 5) (oi := ⟨some 27, _, _, _, _, _⟩) (v := ?v5y1) rfl (by kernel_rfl) (by kernel_rfl) (by kernel_rfl) (fun _ _ _ h => h) (Or.inl ⟨by rfl, ?h5y1⟩) (by assumption) ?r5y1
        case h5y1 => intro w hSw; (try dsimp only at hSw); go_simp; (try with_reducible rfl)
        try simp only [Act.put, List.setIfInBounds_toArray, List.set_cons_zero, List.set_cons_succ]
        refine wpAnyH_take (i := 6) (oi := ⟨some 28, _, _, _, _, _⟩) (v := ?v6y1) rfl (by kernel_rfl) (by kernel_rfl) (by kernel_rfl) (fun _ _ _ h => h) (Or.inl ⟨by rfl, ?h6y1⟩) (by assumption) ?r6y1
        case h6y1 => intro w hSw; (try dsimp only at hSw); go_simp; (try with_reducible rfl)
        try simp only [Act.put, List.setIfInBounds_toArray, List.set_cons_zero, List.set_cons_succ]
        refine wpAnyH_take (i := 7) (oi := ⟨some 29, _, _, _, _, _⟩) (v := ?v7y1) rfl (by kernel_rfl) (by kernel_rfl) (by kernel_rfl) (fun _ _ _ h => h) (Or.inl ⟨by rfl, ?h7y1⟩) (by assumption) ?r7y1
        case h7y1 => intro w hSw; (try dsimp only at hSw); have hSw2 := hSw.2; go_simp; (try with_reducible rfl)
        try simp only [Act.put, List.setIfInBounds_toArray, List.set_cons_zero, List.set_cons_succ]
        refine wpAnyH_ready (rs := [8, 13]) (by kernel_rfl) (by simp) ?_
        refine AllReadyH.cons (o := ⟨some 30, _, _, _, _, _⟩) rfl (fun K hK => ?_) (AllReadyH.cons (o := ⟨some 7, _, _, _, _, _⟩) rfl (fun K hK => ?_) AllReadyH.nil)
        · go_simp; (go_at_call 95; have hal : Same w5 w5.drew := (Keeps.drew (Keeps.refl _ _)); refine (HGet.out _ (HA.out.mc.same hal)).mono ?_; rintro z w3 ⟨rfl, hl3⟩; obtain ⟨q3, cap3, F3, hD3, _⟩ := HA.out.get hal hl3; have m0 := hD3.box.cell 0; have m1 := hD3.box.cell 1; simp only [List.getElem?_toArray, List.getElem?_cons_zero, List.getElem?_cons_succ] at m0 m1; rw [HX.out.2.1] at m0)
          refine hK.out _ _ (by (try dsimp only); exact ⟨m0, m1⟩) (fun hHeld => ?_)
          clear hK K
          try simp only [Act.put, List.setIfInBounds_toArray, List.set_cons_zero, List.set_cons_succ]
          refine wpAnyH_take (i := 9) (oi := ⟨some 21, _, _, _, _, _⟩) (v := ?v9y2) rfl (by kernel_rfl) (by kernel_rfl) (by kernel_rfl) (fun _ _ _ h => h) (Or.inl ⟨by rfl, ?h9y2⟩) (by assumption) ?r9y2
          case h9y2 => intro w hSw; (try dsimp only at hSw); go_simp; (try with_reducible rfl)
          try simp only [Act.put, List.setIfInBounds_toArray, List.set_cons_zero, List.set_cons_succ]
          refine wpAnyH_take (i := 10) (oi := ⟨some 31, _, _, _, _, _⟩) (v := ?v10y2) rfl (by kernel_rfl) (by kernel_rfl) (by kernel_rfl) (fun _ _ _ h => h) (Or.inl ⟨by rfl, ?h10y2⟩) (by assumption) ?r10y2
          case h10y2 => intro w hSw; (try dsimp only at hSw); go_simp; (try with_reducible rfl)
          try simp only [Act.put, List.setIfInBounds_toArray, List.set_cons_zero, List.set_cons_succ]
          refine wpAnyH_take (i := 11) (oi := ⟨some 32, _, _, _, _, _⟩) (v := ?v11y2) rfl (by kernel_rfl) (by kernel_rfl) (by kernel_rfl) (fun _ _ _ h => h) (Or.inl ⟨by rfl, ?h11y2⟩) (by assumption) ?r11y2
          case h11y2 => intro w hSw; (try dsimp only at hSw); go_simp; (try with_reducible rfl)
          try simp only [Act.put, List.setIfInBounds_toArray, List.set_cons_zero, List.set_cons_succ]
          refine wpAnyH_take (i := 12) (oi := ⟨some 33, _, _, _, _, _⟩) (v := ?v12y2) rfl (by kernel_rfl) (by kernel_rfl) (by kernel_rfl) (fun _ _ _ h => h) (Or.inl ⟨by rfl, ?h12y2⟩) (by assumption) ?r12y2
          case h12y2 => intro w hSw; (try dsimp only at hSw); go_simp; (try with_reducible rfl)
          try simp only [Act.put, List.setIfInBounds_toArray, List.set_cons_zero, List.set_cons_succ]
          refine wpAnyH_ready (rs := [13]) (by kernel_rfl) (by simp) ?_
          refine AllReadyH.cons (o := ⟨some 7, _, _, _, _, _⟩) rfl (fun K hK => ?_) AllReadyH.nil
          go_simp
          refine hK.out _ _ (by (try dsimp only); exact ⟨(((Keeps.refl (fun _ => False) _).alloc _).cell (p := ⟨y, 0, none⟩) (by first | exact hyl | exact hD3.box.lt | (simp; omega)) (fun h => h)).trans hHeld.1, (((Keeps.refl (fun _ => False) _).alloc _).cell (p := ⟨y, 1, none⟩) (by first | exact hyl | exact hD3.box.lt | (simp; omega)) (fun h => h)).trans hHeld.2⟩) (fun hHeld => ?_)
          clear hK K
          try simp only [Act.put, List.setIfInBounds_toArray, List.set_cons_zero, List.set_cons_succ]
          refine wpAnyH_ready (rs := [14]) (by kernel_rfl) (by simp) ?_
          refine AllReadyH.cons (o := ⟨none, _, _, _, _, _⟩) rfl (fun K hK => ?_) AllReadyH.nil
          go_simp
          refine hK.out _ _ (by (try dsimp only); exact ⟨(((Keeps.refl (fun _ => False) _).alloc _).cell (p := ⟨y, 0, none⟩) hD3.box.lt (fun h => h)).trans m0, (((Keeps.refl (fun _ => False) _).alloc _).cell (p := ⟨y, 1, none⟩) hD3.box.lt (fun h => h)).trans m1⟩) (fun hHeld => ?_)
          clear hK K
          try simp only [Act.put, List.setIfInBounds_toArray, List.set_cons_zero, List.set_cons_succ]
          refine wpAnyH_take (i := 15) (oi := ⟨some 8, _, _, _, _, _⟩) (v := ?v15y2) rfl (by kernel_rfl) (by kernel_rfl) (by kernel_rfl) (fun _ _ _ h => h) (Or.inl ⟨by rfl, ?h15y2⟩) (by assumption) ?r15y2
          case h15y2 => intro w hSw; (try dsimp only at hSw); go_simp; (try with_reducible rfl)
          try simp only [Act.put, List.setIfInBounds_toArray, List.set_cons_zero, List.set_cons_succ]
          refine wpAnyH_take (i := 16) (oi := ⟨some 9, _, _, _, _, _⟩) (v := ?v16y2) rfl (by kernel_rfl) (by kernel_rfl) (by kernel_rfl) (fun _ _ _ h => h) (Or.inl ⟨by rfl, ?h16y2⟩) (by assumption) ?r16y2
          case h16y2 => intro w hSw; (try dsimp only at hSw); go_simp; (try with_reducible rfl)
          try simp only [Act.put, List.setIfInBounds_toArray, List.set_cons_zero, List.set_cons_succ]
          refine wpAnyH_done (by kernel_rfl) ?_ _
          go_wp2_with fail
          go_meet
          exact ⟨w3.heap.size, q3, cap3, F3, rfl, rfl, rfl, Blk.new _ _ _, hD3.same ((Keeps.refl _ _).alloc _)⟩
        · go_simp
          refine hK.out _ _ (by (try dsimp only); exact ⟨(((Keeps.refl (fun _ => False) _).alloc _).cell (p := ⟨y, 0, none⟩) (by first | exact hyl | exact hD3.box.lt | (simp; omega)) (fun h => h)).trans hHeld.1, (((Keeps.refl (fun _ => False) _).alloc _).cell (p := ⟨y, 1, none⟩) (by first | exact hyl | exact hD3.box.lt | (simp; omega)) (fun h => h)).trans hHeld.2⟩) (fun hHeld => ?_)
          clear hK K
          try simp only [Act.put, List.setIfInBounds_toArray, List.set_cons_zero, List.set_cons_succ]
          refine wpAnyH_ready (rs := [8]) (by kernel_rfl) (by simp) ?_
          refine AllReadyH.cons (o := ⟨some 30, _, _, _, _, _⟩) rfl (fun K hK => ?_) AllReadyH.nil
          go_simp; (go_at_call 95; have hal : Same w5 (w5.drew.alloc (.cells #[i6 0, i6 0, i6 0, .int .u8 0] PkT)) := (Keeps.drew (Keeps.refl _ _)).alloc _; refine (HGet.out _ (HA.out.mc.same hal)).mono ?_; rintro z w3 ⟨rfl, hl3⟩; have hB3 := LeftM.blk HA.out hl3 (Nat.le_refl _) (Blk.new w5.drew _ _); obtain ⟨q3, cap3, F3, hD3, hN3⟩ := HA.out.get hal hl3; have hn7 := hN3 w5.heap.size (Nat.le_refl _) (by simp); have hb7c := hB3.four; have m0 := hD3.box.cell 0; have m1 := hD3.box.cell 1; simp only [List.getElem?_toArray, List.getElem?_cons_zero, List.getElem?_cons_succ] at m0 m1; rw [HX.out.2.1] at m0)
          refine hK.out _ _ (by (try dsimp only); exact ⟨m0, m1⟩) (fun hHeld => ?_)
          clear hK K
          try simp only [Act.put, List.setIfInBounds_toArray, List.set_cons_zero, List.set_cons_succ]
          have hD4 := hD3.set4 (b7 := w5.heap.size) HA.out.keeps.size hn7 (by omega) (fun e => by have := HA.out.lt.2.2 _ e; omega) (.int .i64 pk_) (.int .i64 pd) (.int .i64 pl) (.int .u8 py.toNat)
          have t0 := hD4.box.cell 0
          have t1 := hD4.box.cell 1
          simp only [List.getElem?_toArray, List.getElem?_cons_zero, List.getElem?_cons_succ] at t0 t1
          rw [HX.out.2.1] at t0
          refine wpAnyH_take (i := 9) (oi := ⟨some 21, _, _, _, _, _⟩) (v := ?v9y3) rfl (by kernel_rfl) (by kernel_rfl) (by kernel_rfl) (fun _ _ _ h => h) (Or.inl ⟨by rfl, ?h9y3⟩) (by assumption) ?r9y3
          case h9y3 => intro w hSw; (try dsimp only at hSw); go_simp; (try with_reducible rfl)
          try simp only [Act.put, List.setIfInBounds_toArray, List.set_cons_zero, List.set_cons_succ]
          refine wpAnyH_take (i := 10) (oi := ⟨some 31, _, _, _, _, _⟩) (v := ?v10y3) rfl (by kernel_rfl) (by kernel_rfl) (by kernel_rfl) (fun _ _ _ h => h) (Or.inl ⟨by rfl, ?h10y3⟩) (by assumption) ?r10y3
          case h10y3 => intro w hSw; (try dsimp only at hSw); go_simp; (try with_reducible rfl)
          try simp only [Act.put, List.setIfInBounds_toArray, List.set_cons_zero, List.set_cons_succ]
          refine wpAnyH_take (i := 11) (oi := ⟨some 32, _, _, _, _, _⟩) (v := ?v11y3) rfl (by kernel_rfl) (by kernel_rfl) (by kernel_rfl) (fun _ _ _ h => h) (Or.inl ⟨by rfl, ?h11y3⟩) (by assumption) ?r11y3
          case h11y3 => intro w hSw; (try dsimp only at hSw); go_simp; (try with_reducible rfl)
          try simp only [Act.put, List.setIfInBounds_toArray, List.set_cons_zero, List.set_cons_succ]
          refine wpAnyH_take (i := 12) (oi := ⟨some 33, _, _, _, _, _⟩) (v := ?v12y3) rfl (by kernel_rfl) (by kernel_rfl) (by kernel_rfl) (fun _ _ _ h => h) (Or.inl ⟨by rfl, ?h12y3⟩) (by assumption) ?r12y3
          case h12y3 => intro w hSw; (try dsimp only at hSw); go_simp; (try with_reducible rfl)
          try simp only [Act.put, List.setIfInBounds_toArray, List.set_cons_zero, List.set_cons_succ]
          refine wpAnyH_ready (rs := [14]) (by kernel_rfl) (by simp) ?_
          refine AllReadyH.cons (o := ⟨none, _, _, _, _, _⟩) rfl (fun K hK => ?_) AllReadyH.nil
          go_simp
          refine hK.out _ _ (by (try dsimp only); exact ⟨t0, t1⟩) (fun hHeld => ?_)
          clear hK K
          try simp only [Act.put, List.setIfInBounds_toArray, List.set_cons_zero, List.set_cons_succ]
          refine wpAnyH_take (i := 15) (oi := ⟨some 8, _, _, _, _, _⟩) (v := ?v15y3) rfl (by kernel_rfl) (by kernel_rfl) (by kernel_rfl) (fun _ _ _ h => h) (Or.inl ⟨by rfl, ?h15y3⟩) (by assumption) ?r15y3
          case h15y3 => intro w hSw; (try dsimp only at hSw); go_simp; (try with_reducible rfl)
          try simp only [Act.put, List.setIfInBounds_toArray, List.set_cons_zero, List.set_cons_succ]
          refine wpAnyH_take (i := 16) (oi := ⟨some 9, _, _, _, _, _⟩) (v := ?v16y3) rfl (by kernel_rfl) (by kernel_rfl) (by kernel_rfl) (fun _ _ _ h => h) (Or.inl ⟨by rfl, ?h16y3⟩) (by assumption) ?r16y3
          case h16y3 => intro w hSw; (try dsimp only at hSw); go_simp; (try with_reducible rfl)
          try simp only [Act.put, List.setIfInBounds_toArray, List.set_cons_zero, List.set_cons_succ]
          refine wpAnyH_done (by kernel_rfl) ?_ _
          go_wp2_with fail
          go_meet
          exact ⟨w5.heap.size, q3, cap3, F3, rfl, rfl, rfl, hB3.set4 _ _ _ _, hD4⟩
      case rest =>
        obtain ⟨b7, q3, cap3, F3, rfl, rfl, rfl, hb7, hA3⟩ := hcut
        obtain ⟨wx, rfl⟩ : ∃ wx : World, wx = wc := ⟨_, rfl⟩
        have x1 := hA3.box.cell 1
        simp only [List.getElem?_toArray, List.getElem?_cons_zero, List.getElem?_cons_succ] at x1
        have hD : Dcw wx x DE := hA3.mc.cm.1
        have HBad := hid (dbad_any x DE wx hD)
        have HDone := hid (ddone_any x DE wx hD)
        obtain ⟨f1, f2, f3⟩ := HT.out.1
        have e1 : (DE.rest.isEmpty && DE.code == 0) = true := by rw [f2, f3]; rfl
        rw [e1] at HDone
        rw [f1] at HBad
        have hA4 := hA3
        rw [HT.out.2.1, HT.out.2.2] at hA4
        have HA4 := hid hA4
        clear hA3 hA4 hD hb7 y0 y1 HA HGet f1 f2 f3 e1
        go_wp2_with (first | (go_at_call 96; refine HBad.out.mono ?_; rintro z w6 ⟨rfl, rfl⟩) | (go_at_call 97; refine HDone.out.mono ?_; rintro z w6 ⟨rfl, rfl⟩))
        go_ret2
        exact ⟨q2, c2, DE, PE, q3, cap3, F3, rfl, HA4.out⟩
    · have hkl : k < l.length := by have := HX.out.1; omega
      have hdrop : l.drop k = l[k] :: l.drop (k + 1) := List.drop_eq_getElem_cons hkl
      have htake : l.take (k + 1) = l.take k ++ [l[k]] := by simp
      rw [hdrop] at hGe hT
      generalize l[k] = p at *
      obtain ⟨D2, P2, g1, g2, g3, g4, g5, g6⟩ := hGe
      have hlt : k < N := by omega
      have HGet := hid (fun w0 (hm : MC w0 L S1 P1 q1 cap1 x (.dec D1) F1) => get_again w0 L S1 (tellS S1 p) P1 q1 cap1 x D1 F1 p false D2 P2 hm g1 g2 (fun _ => g5) g3 rfl)
      rw [HX.out.2.1] at HGet
      obtain ⟨S2, hS2⟩ : ∃ S2, tellS S1 p = S2 := ⟨_, rfl⟩
      rw [hS2] at HGet g6
      have hT2 : tellL S2 (l.drop (k + 1)) = Z := by rw [← hS2]; exact hT
      have HT := hid (And.intro g4 (And.intro g6 (And.intro hT2 htake)))
      obtain ⟨pk_, pd, pl, py⟩ := p
      dsimp only at HGet
      have hyl := hA.box.lt
      have HA := hid hA
      clear hA hT hdrop htake g1 g2 g3 g4 g5 g6 hS2 hT2 he hkl
      obtain ⟨w5, rfl⟩ : ∃ w5 : World, w5 = wr := ⟨_, rfl⟩
      go_upto_region 3 with fail
      go_cut [7, 8, 9] (fun s7 s8 s9 wx => ∃ b7 q3 cap3 F3, s7 = .pointer (some ⟨b7, 0, none⟩) ∧ s8 = .bool false ∧ s9 = .bool true ∧ Blk wx b7 #[i6 pk_, i6 pd, i6 pl, b8 py] PkT ∧ DAt w wx G0 L x y S2 D2 P2 q2 c2 (l.take k) q3 cap3 F3)
      case first =>
        refine wp_region_held_drew (S := (fun V => V.cell? ⟨y, 0, none⟩ = some (.pointer (some ⟨φ0, 0, none⟩)) ∧ V.cell? ⟨y, 1, none⟩ = some (.pointer (some ⟨x, 0, none⟩)))) (by kernel_rfl) (by (try dsimp only); exact ⟨y0, y1⟩) (fun hHeld => ?_)
        refine wpAnyH_take (i := 0) (oi := ⟨some 22, _, _, _, _, _⟩) (v := ?v0x1) rfl (by kernel_rfl) (by kernel_rfl) (by kernel_rfl) (fun _ _ _ h => h) (Or.inl ⟨by rfl, ?h0x1⟩) (by assumption) ?r0x1
        case h0x1 => intro w hSw; (try dsimp only at hSw); go_simp; (try with_reducible rfl)
        try simp only [Act.put, List.setIfInBounds_toArray, List.set_cons_zero, List.set_cons_succ]
        refine wpAnyH_take (i := 1) (oi := ⟨some 23, _, _, _, _, _⟩) (v := ?v1x1) rfl (by kernel_rfl) (by kernel_rfl) (by kernel_rfl) (fun _ _ _ h => h) (Or.inl ⟨by rfl, ?h1x1⟩) (by assumption) ?r1x1
        case h1x1 => intro w hSw; (try dsimp only at hSw); go_simp; (try with_reducible rfl)
        try simp only [Act.put, List.setIfInBounds_toArray, List.set_cons_zero, List.set_cons_succ]
        refine wpAnyH_take (i := 2) (oi := ⟨some 24, _, _, _, _, _⟩) (v := ?v2x1) rfl (by kernel_rfl) (by kernel_rfl) (by kernel_rfl) (fun _ _ _ h => h) (Or.inl ⟨by rfl, ?h2x1⟩) (by assumption) ?r2x1
        case h2x1 => intro w hSw; (try dsimp only at hSw); go_simp; (try with_reducible rfl)
        try simp only [Act.put, List.setIfInBounds_toArray, List.set_cons_zero, List.set_cons_succ]
        refine wpAnyH_take (i := 3) (oi := ⟨some 25, _, _, _, _, _⟩) (v := ?v3x1) rfl (by kernel_rfl) (by kernel_rfl) (by kernel_rfl) (fun _ _ _ h => h) (Or.inl ⟨by rfl, ?h3x1⟩) (by assumption) ?r3x1
        case h3x1 => intro w hSw; (try dsimp only at hSw); have hSw1 := hSw.1; go_simp; (try with_reducible rfl)
        try simp only [Act.put, List.setIfInBounds_toArray, List.set_cons_zero, List.set_cons_succ]
        refine wpAnyH_take (i := 4) (oi := ⟨some 26, _, _, _, _, _⟩) (v := ?v4x1) rfl (by kernel_rfl) (by kernel_rfl) (by kernel_rfl) (fun _ _ _ h => h) (Or.inl ⟨by rfl, ?h4x1⟩) (by assumption) ?r4x1
        case h4x1 => intro w hSw; (try dsimp only at hSw); go_simp; (try with_reducible rfl)
        try simp only [Act.put, List.setIfInBounds_toArray, List.set_cons_zero, List.set_cons_succ]
        refine wpAnyH_take (i := 5) (oi := ⟨some 27, _, _, _, _, _⟩) (v := ?v5x1) rfl (by kernel_rfl) (by kernel_rfl) (by kernel_rfl) (fun _ _ _ h => h) (Or.inl ⟨by rfl, ?h5x1⟩) (by assumption) ?r5x1
        case h5x1 => intro w hSw; (try dsimp only at hSw); go_simp; (try with_reducible rfl)
        try simp only [Act.put, List.setIfInBounds_toArray, List.set_cons_zero, List.set_cons_succ]
        refine wpAnyH_take (i := 6) (oi := ⟨some 28, _, _, _, _, _⟩) (v := ?v6x1) rfl (by kernel_rfl) (by kernel_rfl) (by kernel_rfl) (fun _ _ _ h => h) (Or.inl ⟨by rfl, ?h6x1⟩) (by assumption) ?r6x1
        case h6x1 => intro w hSw; (try dsimp only at hSw); go_simp; (try with_reducible rfl)
        try simp only [Act.put, List.setIfInBounds_toArray, List.set_cons_zero, List.set_cons_succ]
        refine wpAnyH_take (i := 7) (oi := ⟨some 29, _, _, _, _, _⟩) (v := ?v7x1) rfl (by kernel_rfl) (by kernel_rfl) (by kernel_rfl) (fun _ _ _ h => h) (Or.inl ⟨by rfl, ?h7x1⟩) (by assumption) ?r7x1
        case h7x1 => intro w hSw; (try dsimp only at hSw); have hSw2 := hSw.2; go_simp; (try with_reducible rfl)
        try simp only [Act.put, List.setIfInBounds_toArray, List.set_cons_zero, List.set_cons_succ]
        refine wpAnyH_ready (rs := [8, 13]) (by kernel_rfl) (by simp) ?_
        refine AllReadyH.cons (o := ⟨some 30, _, _, _, _, _⟩) rfl (fun K hK => ?_) (AllReadyH.cons (o := ⟨some 7, _, _, _, _, _⟩) rfl (fun K hK => ?_) AllReadyH.nil)
        · go_simp; (go_at_call 95; have hal : Same w5 w5.drew := (Keeps.drew (Keeps.refl _ _)); refine (HGet.out _ (HA.out.mc.same hal)).mono ?_; rintro z w3 ⟨rfl, hl3⟩; obtain ⟨q3, cap3, F3, hD3, _⟩ := HA.out.get hal hl3; have m0 := hD3.box.cell 0; have m1 := hD3.box.cell 1; simp only [List.getElem?_toArray, List.getElem?_cons_zero, List.getElem?_cons_succ] at m0 m1; rw [HX.out.2.1] at m0)
          refine hK.out _ _ (by (try dsimp only); exact ⟨m0, m1⟩) (fun hHeld => ?_)
          clear hK K
          try simp only [Act.put, List.setIfInBounds_toArray, List.set_cons_zero, List.set_cons_succ]
          refine wpAnyH_take (i := 9) (oi := ⟨some 21, _, _, _, _, _⟩) (v := ?v9x2) rfl (by kernel_rfl) (by kernel_rfl) (by kernel_rfl) (fun _ _ _ h => h) (Or.inl ⟨by rfl, ?h9x2⟩) (by assumption) ?r9x2
          case h9x2 => intro w hSw; (try dsimp only at hSw); go_simp; (try with_reducible rfl)
          try simp only [Act.put, List.setIfInBounds_toArray, List.set_cons_zero, List.set_cons_succ]
          refine wpAnyH_take (i := 10) (oi := ⟨some 31, _, _, _, _, _⟩) (v := ?v10x2) rfl (by kernel_rfl) (by kernel_rfl) (by kernel_rfl) (fun _ _ _ h => h) (Or.inl ⟨by rfl, ?h10x2⟩) (by assumption) ?r10x2
          case h10x2 => intro w hSw; (try dsimp only at hSw); go_simp; (try with_reducible rfl)
          try simp only [Act.put, List.setIfInBounds_toArray, List.set_cons_zero, List.set_cons_succ]
          refine wpAnyH_take (i := 11) (oi := ⟨some 32, _, _, _, _, _⟩) (v := ?v11x2) rfl (by kernel_rfl) (by kernel_rfl) (by kernel_rfl) (fun _ _ _ h => h) (Or.inl ⟨by rfl, ?h11x2⟩) (by assumption) ?r11x2
          case h11x2 => intro w hSw; (try dsimp only at hSw); go_simp; (try with_reducible rfl)
          try simp only [Act.put, List.setIfInBounds_toArray, List.set_cons_zero, List.set_cons_succ]
          refine wpAnyH_take (i := 12) (oi := ⟨some 33, _, _, _, _, _⟩) (v := ?v12x2) rfl (by kernel_rfl) (by kernel_rfl) (by kernel_rfl) (fun _ _ _ h => h) (Or.inl ⟨by rfl, ?h12x2⟩) (by assumption) ?r12x2
          case h12x2 => intro w hSw; (try dsimp only at hSw); go_simp; (try with_reducible rfl)
          try simp only [Act.put, List.setIfInBounds_toArray, List.set_cons_zero, List.set_cons_succ]
          refine wpAnyH_ready (rs := [13]) (by kernel_rfl) (by simp) ?_
          refine AllReadyH.cons (o := ⟨some 7, _, _, _, _, _⟩) rfl (fun K hK => ?_) AllReadyH.nil
          go_simp
          refine hK.out _ _ (by (try dsimp only); exact ⟨(((Keeps.refl (fun _ => False) _).alloc _).cell (p := ⟨y, 0, none⟩) (by first | exact hyl | exact hD3.box.lt | (simp; omega)) (fun h => h)).trans hHeld.1, (((Keeps.refl (fun _ => False) _).alloc _).cell (p := ⟨y, 1, none⟩) (by first | exact hyl | exact hD3.box.lt | (simp; omega)) (fun h => h)).trans hHeld.2⟩) (fun hHeld => ?_)
          clear hK K
          try simp only [Act.put, List.setIfInBounds_toArray, List.set_cons_zero, List.set_cons_succ]
          refine wpAnyH_ready (rs := [14]) (by kernel_rfl) (by simp) ?_
          refine AllReadyH.cons (o := ⟨none, _, _, _, _, _⟩) rfl (fun K hK => ?_) AllReadyH.nil
          go_simp
          refine hK.out _ _ (by (try dsimp only); exact ⟨(((Keeps.refl (fun _ => False) _).alloc _).cell (p := ⟨y, 0, none⟩) hD3.box.lt (fun h => h)).trans m0, (((Keeps.refl (fun _ => False) _).alloc _).cell (p := ⟨y, 1, none⟩) hD3.box.lt (fun h => h)).trans m1⟩) (fun hHeld => ?_)
          clear hK K
          try simp only [Act.put, List.setIfInBounds_toArray, List.set_cons_zero, List.set_cons_succ]
          refine wpAnyH_take (i := 15) (oi := ⟨some 8, _, _, _, _, _⟩) (v := ?v15x2) rfl (by kernel_rfl) (by kernel_rfl) (by kernel_rfl) (fun _ _ _ h => h) (Or.inl ⟨by rfl, ?h15x2⟩) (by assumption) ?r15x2
          case h15x2 => intro w hSw; (try dsimp only at hSw); go_simp; (try with_reducible rfl)
          try simp only [Act.put, List.setIfInBounds_toArray, List.set_cons_zero, List.set_cons_succ]
          refine wpAnyH_take (i := 16) (oi := ⟨some 9, _, _, _, _, _⟩) (v := ?v16x2) rfl (by kernel_rfl) (by kernel_rfl) (by kernel_rfl) (fun _ _ _ h => h) (Or.inl ⟨by rfl, ?h16x2⟩) (by assumption) ?r16x2
          case h16x2 => intro w hSw; (try dsimp only at hSw); go_simp; (try with_reducible rfl)
          try simp only [Act.put, List.setIfInBounds_toArray, List.set_cons_zero, List.set_cons_succ]
          refine wpAnyH_done (by kernel_rfl) ?_ _
          go_wp2_with fail
          go_meet
          exact ⟨w3.heap.size, q3, cap3, F3, rfl, rfl, rfl, Blk.new _ _ _, hD3.same ((Keeps.refl _ _).alloc _)⟩
        · go_simp
          refine hK.out _ _ (by (try dsimp only); exact ⟨(((Keeps.refl (fun _ => False) _).alloc _).cell (p := ⟨y, 0, none⟩) (by first | exact hyl | exact hD3.box.lt | (simp; omega)) (fun h => h)).trans hHeld.1, (((Keeps.refl (fun _ => False) _).alloc _).cell (p := ⟨y, 1, none⟩) (by first | exact hyl | exact hD3.box.lt | (simp; omega)) (fun h => h)).trans hHeld.2⟩) (fun hHeld => ?_)
          clear hK K
          try simp only [Act.put, List.setIfInBounds_toArray, List.set_cons_zero, List.set_cons_succ]
          refine wpAnyH_ready (rs := [8]) (by kernel_rfl) (by simp) ?_
          refine AllReadyH.cons (o := ⟨some 30, _, _, _, _, _⟩) rfl (fun K hK => ?_) AllReadyH.nil
          go_simp; (go_at_call 95; have hal : Same w5 (w5.drew.alloc (.cells #[i6 0, i6 0, i6 0, .int .u8 0] PkT)) := (Keeps.drew (Keeps.refl _ _)).alloc _; refine (HGet.out _ (HA.out.mc.same hal)).mono ?_; rintro z w3 ⟨rfl, hl3⟩; have hB3 := LeftM.blk HA.out hl3 (Nat.le_refl _) (Blk.new w5.drew _ _); obtain ⟨q3, cap3, F3, hD3, hN3⟩ := HA.out.get hal hl3; have hn7 := hN3 w5.heap.size (Nat.le_refl _) (by simp); have hb7c := hB3.four; have m0 := hD3.box.cell 0; have m1 := hD3.box.cell 1; simp only [List.getElem?_toArray, List.getElem?_cons_zero, List.getElem?_cons_succ] at m0 m1; rw [HX.out.2.1] at m0)
          refine hK.out _ _ (by (try dsimp only); exact ⟨m0, m1⟩) (fun hHeld => ?_)
          clear hK K
          try simp only [Act.put, List.setIfInBounds_toArray, List.set_cons_zero, List.set_cons_succ]
          have hD4 := hD3.set4 (b7 := w5.heap.size) HA.out.keeps.size hn7 (by omega) (fun e => by have := HA.out.lt.2.2 _ e; omega) (.int .i64 pk_) (.int .i64 pd) (.int .i64 pl) (.int .u8 py.toNat)
          have t0 := hD4.box.cell 0
          have t1 := hD4.box.cell 1
          simp only [List.getElem?_toArray, List.getElem?_cons_zero, List.getElem?_cons_succ] at t0 t1
          rw [HX.out.2.1] at t0
          refine wpAnyH_take (i := 9) (oi := ⟨some 21, _, _, _, _, _⟩) (v := ?v9x3) rfl (by kernel_rfl) (by kernel_rfl) (by kernel_rfl) (fun _ _ _ h => h) (Or.inl ⟨by rfl, ?h9x3⟩) (by assumption) ?r9x3
          case h9x3 => intro w hSw; (try dsimp only at hSw); go_simp; (try with_reducible rfl)
          try simp only [Act.put, List.setIfInBounds_toArray, List.set_cons_zero, List.set_cons_succ]
          refine wpAnyH_take (i := 10) (oi := ⟨some 31, _, _, _, _, _⟩) (v := ?v10x3) rfl (by kernel_rfl) (by kernel_rfl) (by kernel_rfl) (fun _ _ _ h => h) (Or.inl ⟨by rfl, ?h10x3⟩) (by assumption) ?r10x3
          case h10x3 => intro w hSw; (try dsimp only at hSw); go_simp; (try with_reducible rfl)
          try simp only [Act.put, List.setIfInBounds_toArray, List.set_cons_zero, List.set_cons_succ]
          refine wpAnyH_take (i := 11) (oi := ⟨some 32, _, _, _, _, _⟩) (v := ?v11x3) rfl (by kernel_rfl) (by kernel_rfl) (by kernel_rfl) (fun _ _ _ h => h) (Or.inl ⟨by rfl, ?h11x3⟩) (by assumption) ?r11x3
          case h11x3 => intro w hSw; (try dsimp only at hSw); go_simp; (try with_reducible rfl)
          try simp only [Act.put, List.setIfInBounds_toArray, List.set_cons_zero, List.set_cons_succ]
          refine wpAnyH_take (i := 12) (oi := ⟨some 33, _, _, _, _, _⟩) (v := ?v12x3) rfl (by kernel_rfl) (by kernel_rfl) (by kernel_rfl) (fun _ _ _ h => h) (Or.inl ⟨by rfl, ?h12x3⟩) (by assumption) ?r12x3
          case h12x3 => intro w hSw; (try dsimp only at hSw); go_simp; (try with_reducible rfl)
          try simp only [Act.put, List.setIfInBounds_toArray, List.set_cons_zero, List.set_cons_succ]
          refine wpAnyH_ready (rs := [14]) (by kernel_rfl) (by simp) ?_
          refine AllReadyH.cons (o := ⟨none, _, _, _, _, _⟩) rfl (fun K hK => ?_) AllReadyH.nil
          go_simp
          refine hK.out _ _ (by (try dsimp only); exact ⟨t0, t1⟩) (fun hHeld => ?_)
          clear hK K
          try simp only [Act.put, List.setIfInBounds_toArray, List.set_cons_zero, List.set_cons_succ]
          refine wpAnyH_take (i := 15) (oi := ⟨some 8, _, _, _, _, _⟩) (v := ?v15x3) rfl (by kernel_rfl) (by kernel_rfl) (by kernel_rfl) (fun _ _ _ h => h) (Or.inl ⟨by rfl, ?h15x3⟩) (by assumption) ?r15x3
          case h15x3 => intro w hSw; (try dsimp only at hSw); go_simp; (try with_reducible rfl)
          try simp only [Act.put, List.setIfInBounds_toArray, List.set_cons_zero, List.set_cons_succ]
          refine wpAnyH_take (i := 16) (oi := ⟨some 9, _, _, _, _, _⟩) (v := ?v16x3) rfl (by kernel_rfl) (by kernel_rfl) (by kernel_rfl) (fun _ _ _ h => h) (Or.inl ⟨by rfl, ?h16x3⟩) (by assumption) ?r16x3
          case h16x3 => intro w hSw; (try dsimp only at hSw); go_simp; (try with_reducible rfl)
          try simp only [Act.put, List.setIfInBounds_toArray, List.set_cons_zero, List.set_cons_succ]
          refine wpAnyH_done (by kernel_rfl) ?_ _
          go_wp2_with fail
          go_meet
          exact ⟨w5.heap.size, q3, cap3, F3, rfl, rfl, rfl, hB3.set4 _ _ _ _, hD4⟩
      case rest =>
        obtain ⟨b7, q3, cap3, F3, rfl, rfl, rfl, hb7, hA3⟩ := hcut
        obtain ⟨wx, rfl⟩ : ∃ wx : World, wx = wc := ⟨_, rfl⟩
        have x1 := hA3.box.cell 1
        simp only [List.getElem?_toArray, List.getElem?_cons_zero, List.getElem?_cons_succ] at x1
        have hD : Dcw wx x D2 := hA3.mc.cm.1
        have HBad := hid (dbad_any x D2 wx hD)
        rw [HT.out.1] at HBad
        obtain ⟨z0, z1, z2, z3⟩ := hb7.four
        have htl : (l.take k).length = k := by rw [List.length_take]; have := HX.out.1; omega
        have HA3 := hid (And.intro hA3 htl)
        have H1 := hid (show k + 1 ≤ maxLen by unfold maxLen; omega)
        have H2 := hid (show (k + 1) * 32 ≤ 140737488355328 by omega)
        have hpk := hA3.pks.own
        rw [htl] at hpk
        clear hA3 hD hb7 y0 y1 htl HA HGet
        go_wp2_with (first | (go_at_call 96; refine HBad.out.mono ?_; rintro z w6 ⟨rfl, rfl⟩) | (at_builtin; refine wpList_push _ rfl (.tmp 56) (.tmp 58) 28 rfl 39 i0 (.agg #[.int .i64 0, .int .i64 0, .int .i64 0, .int .u8 0]) 4 32 Tryz.underlying28 HI zP' (by decide) q2 k c2 (cellsP (l.take k)) ?_ ?_ ⟨w6.heap.size, 0, none⟩ 1 1 [i6 pk_, i6 pd, i6 pl, b8 py] ?_ rfl ?_ (pk_one' _ _ _ _) H1 H2 ?_; exact rfl; exact hpk.alloc _; exact rfl; exact cells_four_new' _ _ _ _ _ _; intro q5 c5 w7 hown hk7 hat _; have HR := hid (HA3.out.1.push (p := ⟨pk_, pd, pl, py⟩) ((Keeps.refl _ _).alloc _) (by rw [HA3.out.2]; exact hown) hk7 hat); clear hown hk7 hat))
        exact ⟨⟨k + 1, q5, c5, S2, D2, P2, q3, cap3, F3, by omega, rfl, by rw [HT.out.2.2.2]; exact HR.out, HT.out.2.1, HT.out.2.2.1⟩, by simp [slN]; omega⟩
end Go.Proofs.YtalopgbkjgjppaaGreatDoor
