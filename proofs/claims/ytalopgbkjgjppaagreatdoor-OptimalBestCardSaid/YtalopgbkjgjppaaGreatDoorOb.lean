/- The walk of law 16's OptimalBest. -/
import Derived.Test.YtalopgbkjgjppaaGreatDoorOn
import Derived.Test.YtalopgbkjgjppaaGreatDoorBl
import Derived.Test.YtalopgbkjgjppaaGreatDoorGOx
import Derived.Test.YtalopgbkjgjppaaGreatDoorGLp
import Derived.Test.YtalopgbkjgjppaaGreatDoorGGy
import Derived.Test.YtalopgbkjgjppaaGreatDoorGSy
import Derived.Test.YtalopgbkjgjppaaGreatDoorEn
import Derived.Test.YtalopgbkjgjppaaGreatDoorDc
namespace Go.Proofs.YtalopgbkjgjppaaGreatDoor
open Go.RowKit Go.Cas Go.Cas.Enc

/-- What others cost, where it is told: as much or more. -/
theorem costs {t : Tab} (ht : t.good) {s : List UInt8} {O : List Opt} (hs : s.length ≤ 1000000) (hO : Ways t s 1048576 s.length O) {l : List Pk} (hl : l.length ≤ 1000000) (ha : applyL l s.length = (s, 0)) :
    ∃ (n : Int) (b : Bool), (b = true → (oat O s.length).1 ≤ n) ∧
    ∀ (q : Option Addr) (cap : Nat) (w : World), Pks w q cap l → Calls Tryz.prog 15 #[t.val, .slice q l.length cap] w fun z w' => z = .returned (.tuple #[i6 n, .bool b]) ∧ Same w w' := by
  have ha' : applyGo s.length l [] (1, 1, 1, 1) = (s, 0) := by
    have := ha
    unfold applyL at this
    rw [Int.toNat_natCast] at this
    exact this
  obtain ⟨n, b, h1, h2⟩ := ofall_any t ht l (tells_bounds s.length hs l [] (1, 1, 1, 1) (Nat.zero_le _) (by rw [ha'])) hl
  refine ⟨n, b, fun e => ?_, h2⟩
  obtain ⟨h3, rfl⟩ := h1 e
  have := best_of hs hO l 0 (1, 1, 1, 1) h3 (Nat.zero_le _) ha'
  rw [hO.start] at this
  have e0 : (zeroO : Opt).1 = 0 := rfl
  omega

set_option maxHeartbeats 8000000 in
set_option maxRecDepth 100000 in
theorem obest_any (s0 : List UInt8) (t : Tab) (w : World) (hs0 : s0.length ≤ maxLen) (hb : Behind w) :
    Calls Tryz.prog 4 #[.string ⟨s0.toArray⟩, t.val] w fun e w' => e = .returned (.bool true) ∧ Same w w' := by
  have HSp := hid speaks16_any
  have HBh := hid hb
  clear hb
  unfold Tab.val
  go_enter Tryz.func4, Tryz.ntmps4
  go_wp2_with fail
  refine (HSp.out _).mono ?_
  rintro z w1 ⟨rfl, hs1⟩
  have hbx := Blk.keeps (Blk.new w #[i6 t.lit, i6 t.mat, i6 t.near, i6 t.far, i6 t.bit] 42) hs1 (fun h => h)
  have hsa : Same w w1 := ((Keeps.refl (fun _ => False) w).alloc _).trans hs1
  generalize hbe : w.heap.size = bx at *
  clear hs1 hbe
  go_upto_region 3 with fail
  go_cut [0] (fun v wx => ∃ t0 : List UInt8, v = .string ⟨t0.toArray⟩ ∧ t0.length ≤ 300 ∧ wx = w1)
  case first =>
    go_wp2_with fail
    all_goals go_meet
    exact ⟨s0.take 300, by congr 1; apply ByteArray.ext; simp; omega, by simp; omega, rfl⟩
  case rest =>
    obtain ⟨s, rfl, hs, rfl⟩ := hcut
    have y0 := hbx.cell 0
    have y1 := hbx.cell 1
    have y2 := hbx.cell 2
    have y3 := hbx.cell 3
    have y4 := hbx.cell 4
    simp only [List.getElem?_toArray, List.getElem?_cons_succ, List.getElem?_cons_zero] at y0 y1 y2 y3 y4
    by_cases ht : t.good
    · have HGd := hid (pgood_any t true ⟨fun _ => ht, fun _ => rfl⟩)
      have HPl := hid (fun w0 => plain_any s 1048576 t w0 ht (by omega))
      have HOp := hid (fun w0 => oparse_any s 1048576 t w0 ht (by omega))
      have HT := hid ht
      unfold Tab.val at HGd HPl HOp
      clear ht
      go_wp2_with fail
      refine (HGd.out _).mono ?_
      rintro z w2 ⟨rfl, hs2⟩
      have hbt := Blk.keeps (Blk.new wc #[i6 t.lit, i6 t.mat, i6 t.near, i6 t.far, i6 t.bit] 43) hs2 (fun h => h)
      have hsb : Same w w2 := (hsa.alloc _).trans hs2
      generalize wc.heap.size = bt at *
      have yt := fun i => hbt.cell i
      have t0 := yt 0
      have t1 := yt 1
      have t2 := yt 2
      have t3 := yt 3
      have t4 := yt 4
      simp only [List.getElem?_toArray, List.getElem?_cons_succ, List.getElem?_cons_zero] at t0 t1 t2 t3 t4
      clear y0 y1 y2 y3 y4 hsa hbx hs2 yt
      go_wp2_with fail
      refine (HPl.out _).mono ?_
      rintro z w3 ⟨O, hO, q, c, rfl, hp, hs3, hb⟩
      rw [show min (1048576 : Int) 1048576 = 1048576 from rfl] at hO
      obtain ⟨p1, p2, p3, p4, p5⟩ := plain_says HT.out (by omega) hO
      have hOw := plain_ways HT.out hO
      have hcg := costs HT.out (by omega) hOw (l := repeatL (parseL s 1048576 1048576)) (by rw [repeatL_length]; have := parseGo_length s 1048576 1048576 s.length 0; have e : (parseL s 1048576 1048576).length = (parseGo s 1048576 1048576 s.length 0).length := rfl; omega) (parse_tells s 1048576 1048576 (by omega))
      have hcl := costs HT.out (by omega) hOw (l := repeatL (lazyL s 1048576 1048576)) (by rw [repeatL_length]; have := lazyGo_length s 1048576 1048576 s.length 0; have e : (lazyL s 1048576 1048576).length = (lazyGo s 1048576 1048576 s.length 0).length := rfl; omega) (lazy_tells s 1048576 1048576 (by omega))
      rw [← p2] at hcg hcl
      obtain ⟨a, pa, ha1, ha2⟩ := hcg
      obtain ⟨b, pb, hb1, hb2⟩ := hcl
      have hrt := repeatL_tells (obackL O) s.length (by rw [p1])
      rw [p1] at hrt
      obtain ⟨N, hN⟩ : ∃ N, s.length = N := ⟨_, rfl⟩
      obtain ⟨hr, htl, hrd⟩ := coded_back (lc := 3) (lp := 0) (pb := 2) (R := s.length) true (by decide) (by decide) hrt (Nat.le_refl _) (by omega) (by omega)
      rw [hN] at hrd hs p5
      have HGp := hid (fun w0 => gparse_any s 1048576 1048576 w0 (by omega))
      have HLp := hid (fun w0 => lparse_any s 1048576 1048576 w0 (by omega))
      have hbt3 := hbt.keeps hs3 (fun h => h)
      have hsc := hsb.trans hs3
      have HO := hid hO
      have hrl : (repeatL (obackL O)).length = (obackL O).length := repeatL_len _
      have hlen : (obackL O).length ≤ 100000 := by omega
      have HOf := hid (fun w0 h => of_any t HT.out q c (obackL O) w0 h p3 (by omega))
      have HRp := hid (fun w0 h => repeat_any q c (obackL O) w0 h (by omega))
      have hbs : (⟨s.toArray⟩ : ByteArray).size = N := by rw [← hN]; rfl
      obtain ⟨L, hL⟩ : ∃ L, obackL O = L := ⟨_, rfl⟩
      rw [hL] at hp p5 hrl hlen hr hrd htl HOf HRp ha1 hb1 ⊢
      obtain ⟨n, hn⟩ : ∃ n, sumP t L = n := ⟨_, rfl⟩
      rw [hn] at ha1 hb1 HOf
      obtain ⟨RL, hRL⟩ : ∃ RL, repeatL L = RL := ⟨_, rfl⟩
      rw [hRL] at hrl hr hrd htl HRp
      have HEn := hid (fun (q : Option Addr) (cap : Nat) (w0 : World) (h : Pks w0 q cap RL) (hb : Behind w0) => encode_any q cap RL 3 0 2 true w0 h hb (by decide) (by decide) hr (by omega))
      generalize bytesL (Lay.of 3 0 2 16777216) RL true = BS at *
      have HDe := hid (fun (w0 : World) (hb : Behind w0) => decodeT_any BS 3 0 2 N (-1) N RL true w0 hb (by decide) (by decide) (by omega) (by omega) (by simp) hrd (by omega))
      rw [htl] at HDe
      have HAg := hid ha2
      have HBl := hid hb2
      have HHL := hid (And.intro hL hRL)
      have HRl := hid (And.intro hrl hlen)
      clear hrl hlen p5
      unfold Tab.val at HOf HAg HBl
      obtain ⟨RG, hRG⟩ : ∃ RG, repeatL (parseL s 1048576 1048576) = RG := ⟨_, rfl⟩
      obtain ⟨RZ, hRZ⟩ : ∃ RZ, repeatL (lazyL s 1048576 1048576) = RZ := ⟨_, rfl⟩
      rw [hRG] at HGp HAg
      rw [hRZ] at HLp HBl
      have HP := hid (And.intro hp (And.intro hbt3 hsc))
      have HC := hid (And.intro ha1 hb1)
      clear p1 p2 p3 p4 hO hb hbt hsb hs3 t0 t1 t2 t3 t4 hOw ha2 hb2 hrt hr htl hrd hL hRL hn hRG hRZ hp hbt3 hsc ha1 hb1
      obtain ⟨v3, rfl⟩ : ∃ v : World, v = w3 := ⟨_, rfl⟩
      have yt := fun i => HP.out.2.1.cell i
      have t0 := yt 0
      have t1 := yt 1
      have t2 := yt 2
      have t3 := yt 3
      have t4 := yt 4
      simp only [List.getElem?_toArray, List.getElem?_cons_succ, List.getElem?_cons_zero] at t0 t1 t2 t3 t4
      clear yt
      go_wp2_with fail
      refine (HOf.out _ HP.out.1).mono ?_
      rintro z w4 ⟨rfl, hs4⟩
      have HP4 := hid (And.intro (HP.out.1.keeps hs4 (fun _ _ h => h)) (And.intro (HP.out.2.1.keeps hs4 (fun h => h)) (HP.out.2.2.trans hs4)))
      clear hs4 t0 t1 t2 t3 t4
      have yt := fun i => HP4.out.2.1.cell i
      have u0 := yt 0
      have u1 := yt 1
      have u2 := yt 2
      have u3 := yt 3
      have u4 := yt 4
      simp only [List.getElem?_toArray, List.getElem?_cons_succ, List.getElem?_cons_zero] at u0 u1 u2 u3 u4
      have hbl := HP4.out.2.1.lt
      clear yt
      go_upto_region 11 with fail
      refine wp_region_held_drew (S := (fun W => Same w4 W)) (by kernel_rfl) (by (try dsimp only); exact (Keeps.refl _ _).drew) (fun hHeld => ?_)
      refine wpAnyH_take (i := 0) (oi := ⟨some 44, _, _, _, _, _⟩) (v := ?v0x1) rfl (by kernel_rfl) (by kernel_rfl) (by kernel_rfl) (fun _ _ _ h => h) (Or.inl ⟨by rfl, ?h0x1⟩) (by assumption) ?r0x1
      case h0x1 => intro w hSw; (try dsimp only at hSw); have k0 := (Keeps.cell hSw (p := ⟨bt, 0, none⟩) hbl (fun h => h)).trans u0; have k1 := (Keeps.cell hSw (p := ⟨bt, 1, none⟩) hbl (fun h => h)).trans u1; have k2 := (Keeps.cell hSw (p := ⟨bt, 2, none⟩) hbl (fun h => h)).trans u2; have k3 := (Keeps.cell hSw (p := ⟨bt, 3, none⟩) hbl (fun h => h)).trans u3; have k4 := (Keeps.cell hSw (p := ⟨bt, 4, none⟩) hbl (fun h => h)).trans u4; go_simp; (try with_reducible rfl)
      try simp only [Act.put, List.setIfInBounds_toArray, List.set_cons_zero, List.set_cons_succ]
      refine wpAnyH_take (i := 1) (oi := ⟨some 45, _, _, _, _, _⟩) (v := ?v1x1) rfl (by kernel_rfl) (by kernel_rfl) (by kernel_rfl) (fun _ _ _ h => h) (Or.inl ⟨by rfl, ?h1x1⟩) (by assumption) ?r1x1
      case h1x1 => intro w hSw; (try dsimp only at hSw); go_simp; (try with_reducible rfl)
      try simp only [Act.put, List.setIfInBounds_toArray, List.set_cons_zero, List.set_cons_succ]
      refine wpAnyH_ready (rs := [2]) (by kernel_rfl) (by simp) ?_
      refine AllReadyH.cons (o := ⟨some 46, _, _, _, _, _⟩) rfl (fun K hK => ?_) AllReadyH.nil
      go_simp; (go_at_call 16; refine (HGp.out _).mono ?_; rintro z w5 ⟨q5, c5, rfl, hs5, hp5, _⟩)
      refine hK.out _ _ (by (try dsimp only); repeat (first | exact Keeps.refl _ _ | refine Keeps.drew ?_ | refine Keeps.drewN ?_ _ | refine Keeps.alloc ?_ _ | refine Keeps.setCell ?_ (by simp; try omega) _ | exact Hid.out (by assumption) | refine Keeps.trans ?_ (by assumption))) (fun hHeld => ?_)
      clear hK K
      try simp only [Act.put, List.setIfInBounds_toArray, List.set_cons_zero, List.set_cons_succ]
      refine wpAnyH_ready (rs := [3]) (by kernel_rfl) (by simp) ?_
      refine AllReadyH.cons (o := ⟨some 47, _, _, _, _, _⟩) rfl (fun K hK => ?_) AllReadyH.nil
      go_simp; (go_at_call 15; refine (HAg.out q5 c5 _ hp5).mono ?_; rintro z w6 ⟨rfl, hs6⟩)
      refine hK.out _ _ (by (try dsimp only); repeat (first | exact Keeps.refl _ _ | refine Keeps.drew ?_ | refine Keeps.drewN ?_ _ | refine Keeps.alloc ?_ _ | refine Keeps.setCell ?_ (by simp; try omega) _ | exact Hid.out (by assumption) | refine Keeps.trans ?_ (by assumption))) (fun hHeld => ?_)
      clear hK K
      try simp only [Act.put, List.setIfInBounds_toArray, List.set_cons_zero, List.set_cons_succ]
      refine wpAnyH_take (i := 4) (oi := ⟨some 43, _, _, _, _, _⟩) (v := ?v4x1) rfl (by kernel_rfl) (by kernel_rfl) (by kernel_rfl) (fun _ _ _ h => h) (Or.inl ⟨by rfl, ?h4x1⟩) (by assumption) ?r4x1
      case h4x1 => intro w hSw; (try dsimp only at hSw); go_simp; (try with_reducible rfl)
      try simp only [Act.put, List.setIfInBounds_toArray, List.set_cons_zero, List.set_cons_succ]
      refine wpAnyH_take (i := 5) (oi := ⟨some 48, _, _, _, _, _⟩) (v := ?v5x1) rfl (by kernel_rfl) (by kernel_rfl) (by kernel_rfl) (fun _ _ _ h => h) (Or.inl ⟨by rfl, ?h5x1⟩) (by assumption) ?r5x1
      case h5x1 => intro w hSw; (try dsimp only at hSw); go_simp; (try with_reducible rfl)
      try simp only [Act.put, List.setIfInBounds_toArray, List.set_cons_zero, List.set_cons_succ]
      refine wpAnyH_take (i := 6) (oi := ⟨some 49, _, _, _, _, _⟩) (v := ?v6x1) rfl (by kernel_rfl) (by kernel_rfl) (by kernel_rfl) (fun _ _ _ h => h) (Or.inl ⟨by rfl, ?h6x1⟩) (by assumption) ?r6x1
      case h6x1 => intro w hSw; (try dsimp only at hSw); go_simp; (try with_reducible rfl)
      try simp only [Act.put, List.setIfInBounds_toArray, List.set_cons_zero, List.set_cons_succ]
      refine wpAnyH_take (i := 7) (oi := ⟨some 9, _, _, _, _, _⟩) (v := ?v7x1) rfl (by kernel_rfl) (by kernel_rfl) (by kernel_rfl) (fun _ _ _ h => h) (Or.inl ⟨by rfl, ?h7x1⟩) (by assumption) ?r7x1
      case h7x1 => intro w hSw; (try dsimp only at hSw); go_simp; (try with_reducible rfl)
      try simp only [Act.put, List.setIfInBounds_toArray, List.set_cons_zero, List.set_cons_succ]
      refine wpAnyH_take (i := 8) (oi := ⟨some 10, _, _, _, _, _⟩) (v := ?v8x1) rfl (by kernel_rfl) (by kernel_rfl) (by kernel_rfl) (fun _ _ _ h => h) (Or.inl ⟨by rfl, ?h8x1⟩) (by assumption) ?r8x1
      case h8x1 => intro w hSw; (try dsimp only at hSw); go_simp; (try with_reducible rfl)
      try simp only [Act.put, List.setIfInBounds_toArray, List.set_cons_zero, List.set_cons_succ]
      refine wpAnyH_done (by kernel_rfl) ?_ _
      have HP6 := hid (And.intro (HP4.out.1.keeps hHeld (fun _ _ h => h)) (And.intro (HP4.out.2.1.keeps hHeld (fun h => h)) (HP4.out.2.2.trans hHeld)))
      clear hHeld u0 u1 u2 u3 u4 hbl hs5 hp5 hs6
      obtain ⟨v6, rfl⟩ : ∃ v : World, v = w6 := ⟨_, rfl⟩
      have yt := fun i => HP6.out.2.1.cell i
      have u0 := yt 0
      have u1 := yt 1
      have u2 := yt 2
      have u3 := yt 3
      have u4 := yt 4
      simp only [List.getElem?_toArray, List.getElem?_cons_succ, List.getElem?_cons_zero] at u0 u1 u2 u3 u4
      have hbl := HP6.out.2.1.lt
      clear yt
      go_upto_region 12 with fail
      refine wp_region_held_drew (S := (fun W => Same v6 W)) (by kernel_rfl) (by (try dsimp only); exact (Keeps.refl _ _).drew) (fun hHeld => ?_)
      refine wpAnyH_take (i := 0) (oi := ⟨some 51, _, _, _, _, _⟩) (v := ?v0y1) rfl (by kernel_rfl) (by kernel_rfl) (by kernel_rfl) (fun _ _ _ h => h) (Or.inl ⟨by rfl, ?h0y1⟩) (by assumption) ?r0y1
      case h0y1 => intro w hSw; (try dsimp only at hSw); have k0 := (Keeps.cell hSw (p := ⟨bt, 0, none⟩) hbl (fun h => h)).trans u0; have k1 := (Keeps.cell hSw (p := ⟨bt, 1, none⟩) hbl (fun h => h)).trans u1; have k2 := (Keeps.cell hSw (p := ⟨bt, 2, none⟩) hbl (fun h => h)).trans u2; have k3 := (Keeps.cell hSw (p := ⟨bt, 3, none⟩) hbl (fun h => h)).trans u3; have k4 := (Keeps.cell hSw (p := ⟨bt, 4, none⟩) hbl (fun h => h)).trans u4; go_simp; (try with_reducible rfl)
      try simp only [Act.put, List.setIfInBounds_toArray, List.set_cons_zero, List.set_cons_succ]
      refine wpAnyH_take (i := 1) (oi := ⟨some 52, _, _, _, _, _⟩) (v := ?v1y1) rfl (by kernel_rfl) (by kernel_rfl) (by kernel_rfl) (fun _ _ _ h => h) (Or.inl ⟨by rfl, ?h1y1⟩) (by assumption) ?r1y1
      case h1y1 => intro w hSw; (try dsimp only at hSw); go_simp; (try with_reducible rfl)
      try simp only [Act.put, List.setIfInBounds_toArray, List.set_cons_zero, List.set_cons_succ]
      refine wpAnyH_ready (rs := [2]) (by kernel_rfl) (by simp) ?_
      refine AllReadyH.cons (o := ⟨some 53, _, _, _, _, _⟩) rfl (fun K hK => ?_) AllReadyH.nil
      go_simp; (go_at_call 17; refine (HLp.out _).mono ?_; rintro z w7 ⟨q7, c7, rfl, hs7, hp7⟩)
      refine hK.out _ _ (by (try dsimp only); repeat (first | exact Keeps.refl _ _ | refine Keeps.drew ?_ | refine Keeps.drewN ?_ _ | refine Keeps.alloc ?_ _ | refine Keeps.setCell ?_ (by simp; try omega) _ | exact Hid.out (by assumption) | refine Keeps.trans ?_ (by assumption))) (fun hHeld => ?_)
      clear hK K
      try simp only [Act.put, List.setIfInBounds_toArray, List.set_cons_zero, List.set_cons_succ]
      refine wpAnyH_ready (rs := [3]) (by kernel_rfl) (by simp) ?_
      refine AllReadyH.cons (o := ⟨some 54, _, _, _, _, _⟩) rfl (fun K hK => ?_) AllReadyH.nil
      go_simp; (go_at_call 15; refine (HBl.out q7 c7 _ hp7).mono ?_; rintro z w8 ⟨rfl, hs8⟩)
      refine hK.out _ _ (by (try dsimp only); repeat (first | exact Keeps.refl _ _ | refine Keeps.drew ?_ | refine Keeps.drewN ?_ _ | refine Keeps.alloc ?_ _ | refine Keeps.setCell ?_ (by simp; try omega) _ | exact Hid.out (by assumption) | refine Keeps.trans ?_ (by assumption))) (fun hHeld => ?_)
      clear hK K
      try simp only [Act.put, List.setIfInBounds_toArray, List.set_cons_zero, List.set_cons_succ]
      refine wpAnyH_take (i := 4) (oi := ⟨some 50, _, _, _, _, _⟩) (v := ?v4y1) rfl (by kernel_rfl) (by kernel_rfl) (by kernel_rfl) (fun _ _ _ h => h) (Or.inl ⟨by rfl, ?h4y1⟩) (by assumption) ?r4y1
      case h4y1 => intro w hSw; (try dsimp only at hSw); go_simp; (try with_reducible rfl)
      try simp only [Act.put, List.setIfInBounds_toArray, List.set_cons_zero, List.set_cons_succ]
      refine wpAnyH_take (i := 5) (oi := ⟨some 55, _, _, _, _, _⟩) (v := ?v5y1) rfl (by kernel_rfl) (by kernel_rfl) (by kernel_rfl) (fun _ _ _ h => h) (Or.inl ⟨by rfl, ?h5y1⟩) (by assumption) ?r5y1
      case h5y1 => intro w hSw; (try dsimp only at hSw); go_simp; (try with_reducible rfl)
      try simp only [Act.put, List.setIfInBounds_toArray, List.set_cons_zero, List.set_cons_succ]
      refine wpAnyH_take (i := 6) (oi := ⟨some 56, _, _, _, _, _⟩) (v := ?v6y1) rfl (by kernel_rfl) (by kernel_rfl) (by kernel_rfl) (fun _ _ _ h => h) (Or.inl ⟨by rfl, ?h6y1⟩) (by assumption) ?r6y1
      case h6y1 => intro w hSw; (try dsimp only at hSw); go_simp; (try with_reducible rfl)
      try simp only [Act.put, List.setIfInBounds_toArray, List.set_cons_zero, List.set_cons_succ]
      refine wpAnyH_take (i := 7) (oi := ⟨some 11, _, _, _, _, _⟩) (v := ?v7y1) rfl (by kernel_rfl) (by kernel_rfl) (by kernel_rfl) (fun _ _ _ h => h) (Or.inl ⟨by rfl, ?h7y1⟩) (by assumption) ?r7y1
      case h7y1 => intro w hSw; (try dsimp only at hSw); go_simp; (try with_reducible rfl)
      try simp only [Act.put, List.setIfInBounds_toArray, List.set_cons_zero, List.set_cons_succ]
      refine wpAnyH_take (i := 8) (oi := ⟨some 12, _, _, _, _, _⟩) (v := ?v8y1) rfl (by kernel_rfl) (by kernel_rfl) (by kernel_rfl) (fun _ _ _ h => h) (Or.inl ⟨by rfl, ?h8y1⟩) (by assumption) ?r8y1
      case h8y1 => intro w hSw; (try dsimp only at hSw); go_simp; (try with_reducible rfl)
      try simp only [Act.put, List.setIfInBounds_toArray, List.set_cons_zero, List.set_cons_succ]
      refine wpAnyH_done (by kernel_rfl) ?_ _
      have HP8 := hid (And.intro (HP6.out.1.keeps hHeld (fun _ _ h => h)) (And.intro (HP6.out.2.1.keeps hHeld (fun h => h)) (HP6.out.2.2.trans hHeld)))
      clear hHeld u0 u1 u2 u3 u4 hbl hs7 hp7 hs8
      obtain ⟨v8, rfl⟩ : ∃ v : World, v = w8 := ⟨_, rfl⟩
      go_upto_region 13 with fail
      go_cut [70] (fun s70 wx => s70 = .bool false ∧ wx = v8)
      case first =>
        cases pa with
        | true =>
          have d1 : decide (a < n) = false := by have := HC.out.1 rfl; simp; omega
          cases pb with
          | true =>
            have d2 : decide (b < n) = false := by have := HC.out.2 rfl; simp; omega
            go_wp2_with fail
            go_meet
            exact ⟨rfl, rfl⟩
          | false =>
            go_wp2_with fail
            go_meet
            exact ⟨rfl, rfl⟩
        | false =>
          cases pb with
          | true =>
            have d2 : decide (b < n) = false := by have := HC.out.2 rfl; simp; omega
            go_wp2_with fail
            go_meet
            exact ⟨rfl, rfl⟩
          | false =>
            go_wp2_with fail
            go_meet
            exact ⟨rfl, rfl⟩
      case rest =>
        obtain ⟨rfl, rfl⟩ := hcut
        have yt := fun i => HP8.out.2.1.cell i
        have u0 := yt 0
        have u1 := yt 1
        have u2 := yt 2
        have u3 := yt 3
        have u4 := yt 4
        simp only [List.getElem?_toArray, List.getElem?_cons_succ, List.getElem?_cons_zero] at u0 u1 u2 u3 u4
        clear yt HGp HLp HAg HBl HC HGd HPl HOf
        go_wp2_with fail
        refine (HOp.out _).mono ?_
        rintro z w9 ⟨O2, hO2, q9, c9, rfl, hp9, hs9, hb9⟩
        rw [show min (1048576 : Int) 1048576 = 1048576 from rfl] at hO2
        obtain rfl := plain_same HO.out hO2
        have e9 : (repeatL (obackL O)) = RL := by rw [HHL.out.1, HHL.out.2]
        rw [e9] at hp9 ⊢
        have HP9 := hid (And.intro (HP8.out.1.keeps hs9 (fun _ _ h => h)) (And.intro hp9 (HP8.out.2.2.trans hs9)))
        clear hO2 hp9 hs9 hb9 u0 u1 u2 u3 u4 e9
        go_wp2_with fail
        refine (HRp.out _ HP9.out.1).mono ?_
        rintro z w10 ⟨q10, c10, rfl, hs10, hp10, _⟩
        have HP10 := hid (And.intro (HP9.out.2.1.keeps hs10 (fun _ _ h => h)) (And.intro hp10 (HP9.out.2.2.trans hs10)))
        clear hs10 hp10
        have hRL2 : RL.length ≤ 1000000 := by have := HRl.out.1; have := HRl.out.2; omega
        clear HRp HOp
        go_wp2_with fail
        go_loopw [15] (fun s15 wx => ∃ k : Nat, s15 = i6 k ∧ k ≤ RL.length ∧ Same w10 wx) (fun s15 _ => RL.length - (intOf s15).toNat)
        case atStart => exact ⟨0, rfl, Nat.zero_le _, Keeps.refl _ _⟩
        case round =>
          obtain ⟨k, rfl, hk, hsm⟩ := hrel
          by_cases hlt : k < RL.length
          · have hA := HP10.out.1.keeps hsm (fun _ _ h => h)
            have hB := HP10.out.2.1.keeps hsm (fun _ _ h => h)
            obtain ⟨g1, rfl⟩ := hA.ex (by omega)
            obtain ⟨g2, rfl⟩ := hB.ex (by omega)
            have hget : RL[k]? = some RL[k] := by simp [hlt]
            have e1 := hA.at k _ hget
            have e2 := hB.at k _ hget
            generalize RL[k] = p at *
            obtain ⟨pk_, pd, pl, py⟩ := p
            dsimp only at e1 e2
            have d0 : decide ((k : Int) < (RL.length : Int)) = true := by simpa using hlt
            have fk : IntKind.i64.wrap ((k : Int) + 1) = (k : Int) + 1 := IntWalk.i64_in _ (by omega)
            clear hget hA hB
            go_wp2_with fail
            go_quiet (fail)
            go_wp2_with fail
            exact ⟨⟨k + 1, by go_num, by omega, hsm.drewN _⟩, by simp [intOf]; omega⟩
          · obtain rfl : k = RL.length := by omega
            have d0 : decide ((RL.length : Int) < (RL.length : Int)) = false := by simp
            have HPk := hid (HP10.out.1.keeps hsm (fun _ _ h => h))
            have HSk := hid (HP10.out.2.2.trans hsm)
            clear hsm hlt hk
            go_upto_region 24 with fail
            have hb5 : Blk (wr.alloc (.cells #[i6 3, i6 0, i6 2] 26)) wr.heap.size #[i6 3, i6 0, i6 2] 26 := (Blk.new _ _ _)
            have hs5 : Same wr (wr.alloc (.cells #[i6 3, i6 0, i6 2] 26)) := (Keeps.refl _ _).alloc _
            generalize wr.alloc (.cells #[i6 3, i6 0, i6 2] 26) = w5 at hb5 hs5 ⊢
            generalize wr.heap.size = B0 at hb5 ⊢
            have a0 := hb5.cell 0
            have a1 := hb5.cell 1
            have a2 := hb5.cell 2
            simp only [List.getElem?_toArray, List.getElem?_cons_zero, List.getElem?_cons_succ] at a0 a1 a2
            have HA5 := hid (And.intro hb5 (And.intro (HPk.out.keeps hs5 (fun _ _ h => h)) (HSk.out.trans hs5)))
            clear hb5 hs5
            go_wp2_with fail
            refine (HEn.out _ _ _ HA5.out.2.1 (HBh.out.keeps HA5.out.2.2 (fun h => h))).mono ?_
            rintro z w6 ⟨rfl, hs6⟩
            have hb6 := HA5.out.1.keeps hs6 (fun h => h)
            have b0 := hb6.cell 0
            have b1 := hb6.cell 1
            have b2 := hb6.cell 2
            simp only [List.getElem?_toArray, List.getElem?_cons_zero, List.getElem?_cons_succ] at b0 b1 b2
            have HS6 := hid (HA5.out.2.2.trans hs6)
            clear hb6 hs6 a0 a1 a2
            go_wp2_with fail
            refine (HDe.out _ (HBh.out.keeps HS6.out (fun h => h))).mono ?_
            rintro z w7 ⟨rfl, hs7⟩
            have HS7 := hid (HS6.out.trans hs7)
            clear hs7
            go_wp2_with fail
            go_ret
            exact ⟨by simp, HS7.out⟩
    · have HGd := hid (pgood_any t false ⟨(fun h => nomatch h), fun h => absurd h ht⟩)
      unfold Tab.val at HGd
      go_wp2_with fail
      refine (HGd.out _).mono ?_
      rintro z w2 ⟨rfl, hs2⟩
      go_wp2_with fail
      go_ret
      exact ⟨rfl, (hsa.alloc _).trans hs2⟩
end Go.Proofs.YtalopgbkjgjppaaGreatDoor
