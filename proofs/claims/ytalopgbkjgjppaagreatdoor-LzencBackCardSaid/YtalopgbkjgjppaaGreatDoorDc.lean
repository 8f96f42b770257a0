/- The walks of lzdec's decode, Decode, Packets. -/
import Derived.Test.YtalopgbkjgjppaaGreatDoorPx
import Derived.Test.YtalopgbkjgjppaaGreatDoorNd
import Derived.Test.YtalopgbkjgjppaaGreatDoorMn
namespace Go.Proofs.YtalopgbkjgjppaaGreatDoor
open Go.RowKit Go.Cas Go.Cas.Enc

theorem getP_congr {Y Z : Lay} (h1 : Z.lc = Y.lc) (h2 : Z.lp = Y.lp) (h3 : Z.pb = Y.pb) (S : MSt) (s : CSt) : getP Z S s = getP Y S s := codeP_congr h1 h2 h3 ..
theorem gotE_congr {Y Z : Lay} (h1 : Z.lc = Y.lc) (h2 : Z.lp = Y.lp) (h3 : Z.pb = Y.pb) (S : MSt) (s : CSt) : gotE Z S s = gotE Y S s := by rw [gotE_eq, gotE_eq, getP_congr h1 h2 h3]
theorem gotP_congr {Y Z : Lay} (h1 : Z.lc = Y.lc) (h2 : Z.lp = Y.lp) (h3 : Z.pb = Y.pb) (S : MSt) (s : CSt) : gotP Z S s = gotP Y S s := by unfold gotP; rw [getP_congr h1 h2 h3]
theorem GetsL.congr {Y Z : Lay} (h1 : Z.lc = Y.lc) (h2 : Z.lp = Y.lp) (h3 : Z.pb = Y.pb) (h4 : Z.most = Y.most) : ∀ {l : List Pk} {S : MSt} {D : Dec} {P : Prb} {D' : Dec} {P' : Prb}, GetsL Y S l D P D' P' → GetsL Z S l D P D' P'
  | [], _, _, _, _, _, h => h
  | _ :: _, _, _, _, _, _, ⟨D1, P1, a1, a2, a3, a4, a5, a6⟩ => ⟨D1, P1, by rw [gotP_congr h1 h2 h3]; exact a1, by rw [gotE_congr h1 h2 h3]; exact a2, by rw [getP_congr h1 h2 h3]; exact a3, a4, a5.most h4, a6.congr h1 h2 h3 h4⟩

theorem next_size (D : Dec) : D.next.size = D.size := by unfold Dec.next; split <;> rfl
theorem nexts_size (D : Dec) : ∀ k, (nexts k D).size = D.size
  | 0 => rfl
  | k + 1 => (next_size _).trans (nexts_size D k)
theorem start_ok (B : List UInt8) : DecOk (Dec.start B) := by
  have hc : (popD ⟨B, 0, 4294967295, 0, false⟩).2.code = 0 := by cases B <;> rfl
  have hs : (popD ⟨B, 0, 4294967295, 0, false⟩).2.size = 4294967295 := by cases B <;> rfl
  have e := start_is B
  generalize popD ⟨B, 0, 4294967295, 0, false⟩ = r at *
  have h1 := nexts_size r.2 4
  have h2 := nexts_code (D := r.2) (by omega) 4
  rw [e]
  refine ⟨?_, ?_, h2⟩
  · show 16777216 ≤ (nexts 4 r.2).size; omega
  · show (nexts 4 r.2).size < 4294967296; omega

/-- A decoding that is done. -/
def DecDone (w w' : World) (y : Nat) (q2 : Option Addr) (c2 : Nat) (l : List Pk) (S : MSt) : Prop :=
  ∃ (w1 : World) (G0 : Nat → Prop) (L : Lay) (x : Nat) (D2 : Dec) (P2 : Prb) (q' : Option Addr) (cap' : Nat) (F' : Nat → Prop), DAt w1 w' G0 L x y S D2 P2 q2 c2 l q' cap' F' ∧ Same w w' ∧ w.heap.size ≤ w1.heap.size

set_option maxHeartbeats 4000000 in
set_option maxRecDepth 100000 in
theorem decode_any (B : List UInt8) (lc lp pb R : Nat) (nI most : Int) (l : List Pk) (e : Bool) (w : World) (hb : Behind w) (h1 : lc + lp ≤ 4) (h2 : pb ≤ 4) (hm0 : 0 ≤ most) (hm1 : most ≤ 100000000)
    (hn : if e = true then nI < 0 ∧ (R : Int) = most else nI = (tellL firstS l).text.length ∧ nI ≤ most ∧ (R : Int) = nI) (hR : Reads (Lay.of lc lp pb R) B l e) (hln : l.length ≤ 100000000) :
    Calls Tryz.prog 35 #[.string ⟨B.toArray⟩, .agg #[i6 lc, i6 lp, i6 pb], i6 nI, i6 most] w fun z w' =>
      ∃ y q2 c2, z = .returned (.tuple #[.pointer (some ⟨y, 0, none⟩), .slice q2 l.length c2, i6 0]) ∧ DecDone w w' y q2 c2 l (tellL firstS l) := by
  have HGood := hid (fun w0 => good_any lc lp pb w0 h1 h2)
  have hRb : R ≤ 100000000 := by cases e <;> simp at hn <;> omega
  have HDec := hid (fun w0 => dnew_any B w0)
  have HH := hid (And.intro hb (And.intro hR (And.intro hln hn)))
  have d1 : decide (most < 0) = false := by simp; omega
  have d2 : decide (nI > most) = false := by cases e <;> simp at hn <;> simp <;> omega
  have d2' : decide (most < nI) = false := by cases e <;> simp at hn <;> simp <;> omega
  have d3 : decide (nI < 0) = e := by cases e <;> simp at hn <;> simp <;> omega
  have d4 : (if e = true then most else nI) = (R : Int) := by cases e <;> simp at hn <;> simp <;> omega
  have HNew := hid (fun w0 hb0 => mnew_any lc lp pb R w0 hb0 h1 h2 hRb)
  rw [← d4] at HNew
  clear hb h1 h2 hm0 hm1 hn hR hln hRb d4
  go_enter Tryz.func35, Tryz.ntmps35
  go_upto_region 1 with fail
  have hb0 : Blk (w.alloc (.cells #[i6 lc, i6 lp, i6 pb] 26)) w.heap.size #[i6 lc, i6 lp, i6 pb] 26 := (Blk.new _ _ _)
  have hs0 : Same w (w.alloc (.cells #[i6 lc, i6 lp, i6 pb] 26)) := (Keeps.refl _ _).alloc _
  generalize w.alloc (.cells #[i6 lc, i6 lp, i6 pb] 26) = wa at hb0 hs0 ⊢
  generalize w.heap.size = B0 at hb0 ⊢
  have a0 := hb0.cell 0
  have a1 := hb0.cell 1
  have a2 := hb0.cell 2
  simp only [List.getElem?_toArray, List.getElem?_cons_zero, List.getElem?_cons_succ] at a0 a1 a2
  have HA := hid (And.intro hb0 hs0)
  clear hb0 hs0
  go_upto_region 3 with (go_at_call 29; refine (HGood.out _).mono ?_; rintro z w0 ⟨rfl, hs1⟩)
  have hb1 := HA.out.1.keeps hs1 (fun h => h)
  have b0 := hb1.cell 0
  have b1 := hb1.cell 1
  have b2 := hb1.cell 2
  simp only [List.getElem?_toArray, List.getElem?_cons_zero, List.getElem?_cons_succ] at b0 b1 b2
  have HB := hid (HA.out.2.trans hs1)
  clear hb1 a0 a1 a2 hs1 HA
  have key : ∀ (w1 : World) (L : Lay), (L.lc = lc ∧ L.lp = lp ∧ L.pb = pb ∧ L.most = R) → MM w1 L firstS firstP none 0 → (∀ b, MF L none b → w0.heap.size ≤ b) → Same w0 w1 → ∀ w2, Same w1 w2 → Dcw w2 w1.heap.size (Dec.start B) →
      Calls Tryz.prog 70 #[.pointer (some ⟨w2.heap.size, 0, none⟩), i6 nI] (w2.alloc (.cells #[.pointer (some ⟨L.φ 0, 0, none⟩), .pointer (some ⟨w1.heap.size, 0, none⟩)] 86)) fun z w' =>
        ∃ q2 c2, z = .returned (.tuple #[.slice q2 l.length c2, .bool true]) ∧ DecDone w w' w2.heap.size q2 c2 l (tellL firstS l) := by
    intro w1 L hL hM hge hs1 w2 hs2 hD
    obtain ⟨hb, hR, hln, hn⟩ := HH.out
    have hs3 : Same w2 (w2.alloc (.cells #[.pointer (some ⟨L.φ 0, 0, none⟩), .pointer (some ⟨w1.heap.size, 0, none⟩)] 86)) := (Keeps.refl _ _).alloc _
    have hbx : Blk (w2.alloc (.cells #[.pointer (some ⟨L.φ 0, 0, none⟩), .pointer (some ⟨w1.heap.size, 0, none⟩)] 86)) w2.heap.size #[.pointer (some ⟨L.φ 0, 0, none⟩), .pointer (some ⟨w1.heap.size, 0, none⟩)] 86 := Blk.new _ _ _
    generalize w2.alloc (.cells #[.pointer (some ⟨L.φ 0, 0, none⟩), .pointer (some ⟨w1.heap.size, 0, none⟩)] 86) = w3 at hs3 hbx ⊢
    have hz1 := hs1.size
    have hz2 := hs2.size
    have hz3 := hs3.size
    have hx := hD.lt
    have hz0 := HB.out.size
    have h0 := hM.beh.1
    have hMC : MC w3 L firstS firstP none 0 w1.heap.size (.dec (Dec.start B)) (fun k => k = w1.heap.size) :=
      ⟨(hM.keeps hs2 (fun _ h => h.elim) (fun h => h)).keeps hs3 (fun _ h => h.elim) (fun h => h), ⟨hD.keeps hs3 (fun h => h), rfl⟩, start_ok B, fun b hb e => by have := hM.lt b e; omega, fun e => by omega⟩
    have hy : ¬ (MF L none w2.heap.size ∨ w2.heap.size = w1.heap.size) := fun e => by
      rcases e with e | e
      · have := hM.lt _ e; omega
      · omega
    have fin : ∀ (z : Ending) w' q2 c2 D2 P2 q' cap' F', DAt w3 w' (fun b => MF L none b ∨ b = w1.heap.size) L w1.heap.size w2.heap.size (tellL firstS l) D2 P2 q2 c2 l q' cap' F' → DecDone w w' w2.heap.size q2 c2 l (tellL firstS l) := fun z w' q2 c2 D2 P2 q' cap' F' hd =>
      ⟨w3, _, L, _, D2, P2, q', cap', F', hd, ((HB.out.trans hs1).trans (hs2.trans hs3)).trans' hd.keeps fun b hb e => by
        rcases e with e | e
        · have := hge b e; omega
        · omega, by omega⟩
    obtain ⟨D', P', hG, hE⟩ := hR
    have hG' : GetsL L firstS l (Dec.start B) firstP D' P' := hG.congr (Y := Lay.of lc lp pb R) hL.1 hL.2.1 hL.2.2.1 hL.2.2.2
    cases e with
    | false =>
      simp at hn hE
      have hmo : (L.most : Int) = nI := by rw [hL.2.2.2]; omega
      rw [← hmo]
      refine (packetsN_any w3 L _ _ firstS (Dec.start B) firstP none 0 _ l D' P' hMC hbx hy hG' hln (by omega) hE).mono ?_
      rintro z w' ⟨q2, c2, D2, P2, q', cap', F', rfl, hd⟩
      exact ⟨q2, c2, rfl, fin .outgrown w' q2 c2 D2 P2 q' cap' F' hd⟩
    | true =>
      simp at hn hE
      obtain ⟨g1, D2, ⟨P2, g2⟩, g3, g4, g5⟩ := hE
      refine (packetsE_any w3 L _ _ firstS (Dec.start B) firstP none 0 _ l D' P' nI hMC hbx hy hG' hln hn.1 D2 P2 ⟨?_, ?_, g3, g4, g5⟩).mono ?_
      · rw [gotE_congr (Y := Lay.of lc lp pb R) hL.1 hL.2.1 hL.2.2.1]; exact g1
      · rw [getP_congr (Y := Lay.of lc lp pb R) hL.1 hL.2.1 hL.2.2.1]; exact g2
      · rintro z w' ⟨q2, c2, D3, P3, q', cap', F', rfl, hd⟩
        exact ⟨q2, c2, rfl, fin .outgrown w' q2 c2 D3 P3 q' cap' F' hd⟩
  have HK := hid key
  clear key
  cases e with
  | false =>
    simp only [Bool.false_eq_true, if_false] at HNew
    go_wp2_with fail
    refine (HNew.out _ (HH.out.1.keeps HB.out (fun h => h))).mono ?_
    rintro z w1 ⟨L, rfl, el, ep, eb, em, hM, hge, hs2⟩
    have HM := hid (And.intro (And.intro el (And.intro ep (And.intro eb em))) (And.intro hM (And.intro hge hs2)))
    clear el ep eb em hM hge hs2
    go_wp2_with fail
    refine (HDec.out _).mono ?_
    rintro z w2 ⟨rfl, hs3, hD⟩
    have HP := hid (HK.out w1 L HM.out.1 HM.out.2.1 HM.out.2.2.1 HM.out.2.2.2 w2 hs3 hD)
    clear hs3 hD
    go_wp2_with fail
    refine HP.out.mono ?_
    rintro z w3 ⟨q2, c2, rfl, hdone⟩
    have HDn := hid hdone
    clear hdone
    go_wp2_with fail
    exact bodyPost_ret (v := .tuple #[.pointer (some ⟨w2.heap.size, 0, none⟩), .slice q2 l.length c2, i6 0]) (by simp [results, Tryz.results35, go_sem]) rfl ⟨w2.heap.size, q2, c2, rfl, HDn.out⟩
  | true =>
    simp only [if_true] at HNew
    go_wp2_with fail
    refine (HNew.out _ (HH.out.1.keeps HB.out (fun h => h))).mono ?_
    rintro z w1 ⟨L, rfl, el, ep, eb, em, hM, hge, hs2⟩
    have HM := hid (And.intro (And.intro el (And.intro ep (And.intro eb em))) (And.intro hM (And.intro hge hs2)))
    clear el ep eb em hM hge hs2
    go_wp2_with fail
    refine (HDec.out _).mono ?_
    rintro z w2 ⟨rfl, hs3, hD⟩
    have HP := hid (HK.out w1 L HM.out.1 HM.out.2.1 HM.out.2.2.1 HM.out.2.2.2 w2 hs3 hD)
    clear hs3 hD
    go_wp2_with fail
    refine HP.out.mono ?_
    rintro z w3 ⟨q2, c2, rfl, hdone⟩
    have HDn := hid hdone
    clear hdone
    go_wp2_with fail
    exact bodyPost_ret (v := .tuple #[.pointer (some ⟨w2.heap.size, 0, none⟩), .slice q2 l.length c2, i6 0]) (by simp [results, Tryz.results35, go_sem]) rfl ⟨w2.heap.size, q2, c2, rfl, HDn.out⟩

set_option maxHeartbeats 4000000 in
set_option maxRecDepth 100000 in
theorem decodeT_any (B : List UInt8) (lc lp pb R : Nat) (nI most : Int) (l : List Pk) (e : Bool) (w : World) (hb : Behind w) (h1 : lc + lp ≤ 4) (h2 : pb ≤ 4) (hm0 : 0 ≤ most) (hm1 : most ≤ 100000000)
    (hn : if e = true then nI < 0 ∧ (R : Int) = most else nI = (tellL firstS l).text.length ∧ nI ≤ most ∧ (R : Int) = nI) (hR : Reads (Lay.of lc lp pb R) B l e) (hln : l.length ≤ 100000000) :
    Calls Tryz.prog 11 #[.string ⟨B.toArray⟩, .agg #[i6 lc, i6 lp, i6 pb], i6 nI, i6 most] w fun z w' =>
      z = .returned (.tuple #[.string ⟨(tellL firstS l).text.toArray⟩, i6 0]) ∧ Same w w' := by
  have HD := hid (fun w0 hb0 => decode_any B lc lp pb R nI most l e w0 hb0 h1 h2 hm0 hm1 hn hR hln)
  have HH := hid hb
  obtain ⟨T, hT⟩ : ∃ T, (tellL firstS l).text = T := ⟨_, rfl⟩
  rw [hT]
  have HTT := hid hT
  clear hb h1 h2 hm0 hm1 hn hR hln hT
  go_enter Tryz.func11, Tryz.ntmps11
  go_upto_region 1 with fail
  have hb0 : Blk (w.alloc (.cells #[i6 lc, i6 lp, i6 pb] 26)) w.heap.size #[i6 lc, i6 lp, i6 pb] 26 := (Blk.new _ _ _)
  have hs0 : Same w (w.alloc (.cells #[i6 lc, i6 lp, i6 pb] 26)) := (Keeps.refl _ _).alloc _
  generalize w.alloc (.cells #[i6 lc, i6 lp, i6 pb] 26) = wa at hb0 hs0 ⊢
  generalize w.heap.size = B0 at hb0 ⊢
  have a0 := hb0.cell 0
  have a1 := hb0.cell 1
  have a2 := hb0.cell 2
  simp only [List.getElem?_toArray, List.getElem?_cons_zero, List.getElem?_cons_succ] at a0 a1 a2
  have HS := hid hs0
  clear hb0 hs0
  go_wp2_with fail
  refine (HD.out _ (HH.out.keeps HS.out (fun h => h))).mono ?_
  rintro z w3 ⟨y, q2, c2, rfl, w1, G0, L, x, D2, P2, q', cap', F', hA, hs3, hz⟩
  have y0 := hA.box.cell 0
  simp only [List.getElem?_toArray, List.getElem?_cons_zero] at y0
  have HT := hid (mtext_any w3 L _ _ _ _ hA.mc.mm)
  have HA := hid (And.intro hA (And.intro (HS.out.trans hs3) (Nat.le_trans HS.out.size hz)))
  clear hA hs3 hz
  rw [HTT.out] at HT
  generalize L.φ 0 = φ0 at y0 HT
  go_wp2_with (go_at_call 36; refine HT.out.mono ?_; rintro z w5 ⟨rfl, rfl⟩)
  exact bodyPost_ret (v := .tuple #[.string ⟨T.toArray⟩, i6 0]) (by simp [results, Tryz.results11, go_sem]) rfl ⟨rfl, HA.out.2.1⟩

set_option maxHeartbeats 4000000 in
set_option maxRecDepth 100000 in
theorem decodeP_any (B : List UInt8) (lc lp pb R : Nat) (nI most : Int) (l : List Pk) (e : Bool) (w : World) (hb : Behind w) (h1 : lc + lp ≤ 4) (h2 : pb ≤ 4) (hm0 : 0 ≤ most) (hm1 : most ≤ 100000000)
    (hn : if e = true then nI < 0 ∧ (R : Int) = most else nI = (tellL firstS l).text.length ∧ nI ≤ most ∧ (R : Int) = nI) (hR : Reads (Lay.of lc lp pb R) B l e) (hln : l.length ≤ 100000000) :
    Calls Tryz.prog 10 #[.string ⟨B.toArray⟩, .agg #[i6 lc, i6 lp, i6 pb], i6 nI, i6 most] w fun z w' =>
      ∃ q2 c2, z = .returned (.tuple #[.slice q2 l.length c2, i6 0]) ∧ Pks w' q2 c2 l ∧ (∀ b, sblk q2 b → w.heap.size ≤ b) ∧ Same w w' := by
  have HD := hid (fun w0 hb0 => decode_any B lc lp pb R nI most l e w0 hb0 h1 h2 hm0 hm1 hn hR hln)
  have HH := hid hb
  clear hb h1 h2 hm0 hm1 hn hR hln
  go_enter Tryz.func10, Tryz.ntmps10
  go_upto_region 1 with fail
  have hb0 : Blk (w.alloc (.cells #[i6 lc, i6 lp, i6 pb] 26)) w.heap.size #[i6 lc, i6 lp, i6 pb] 26 := (Blk.new _ _ _)
  have hs0 : Same w (w.alloc (.cells #[i6 lc, i6 lp, i6 pb] 26)) := (Keeps.refl _ _).alloc _
  generalize w.alloc (.cells #[i6 lc, i6 lp, i6 pb] 26) = wa at hb0 hs0 ⊢
  generalize w.heap.size = B0 at hb0 ⊢
  have a0 := hb0.cell 0
  have a1 := hb0.cell 1
  have a2 := hb0.cell 2
  simp only [List.getElem?_toArray, List.getElem?_cons_zero, List.getElem?_cons_succ] at a0 a1 a2
  have HS := hid hs0
  clear hb0 hs0
  go_wp2_with fail
  refine (HD.out _ (HH.out.keeps HS.out (fun h => h))).mono ?_
  rintro z w3 ⟨y, q2, c2, rfl, w1, G0, L, x, D2, P2, q', cap', F', hA, hs3, hz⟩
  have y0 := hA.box.cell 0
  simp only [List.getElem?_toArray, List.getElem?_cons_zero] at y0
  have HT := hid (mtext_any w3 L _ _ _ _ hA.mc.mm)
  have HA := hid (And.intro hA (And.intro (HS.out.trans hs3) (Nat.le_trans HS.out.size hz)))
  clear hA hs3 hz
  go_wp2_with fail
  exact bodyPost_ret (v := .tuple #[.slice q2 l.length c2, i6 0]) (by simp [results, Tryz.results10, go_sem]) rfl ⟨q2, c2, rfl, HA.out.1.pks, fun b hb => Nat.le_trans HA.out.2.2 (HA.out.1.new b hb).1, HA.out.2.1⟩
end Go.Proofs.YtalopgbkjgjppaaGreatDoor
