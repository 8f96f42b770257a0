/- The walk of lzenc.Encode. -/
import Derived.Test.YtalopgbkjgjppaaGreatDoorGSy
import Derived.Test.YtalopgbkjgjppaaGreatDoorMn
namespace Go.Proofs.YtalopgbkjgjppaaGreatDoor
open Go.RowKit Go.Cas Go.Cas.Enc

/-- A model and an encoder somewhere, behind some packets. -/
def EncAt (w0 w : World) (L : Lay) (x : Nat) (l : List Pk) (k : Nat) (s : CSt) (Z : MSt) : Prop :=
  ∃ S E P q cap F, MC w L S P q cap x (.enc E) F ∧ (∀ b, MF L q b ∨ F b → w0.heap.size ≤ b) ∧ Same w0 w ∧ (Cdr.enc E).n ≤ 300 * k ∧ RoomL L S (l.drop k) ∧ putL L S (l.drop k) (.enc E, P) = s ∧ tellL S (l.drop k) = Z

theorem EncAt.same {w0 w w' : World} {L : Lay} {x : Nat} {l : List Pk} {k : Nat} {s : CSt} {Z : MSt} (h : EncAt w0 w L x l k s Z) (hs : Same w w') : EncAt w0 w' L x l k s Z := by
  obtain ⟨S, E, P, q, cap, F, h1, h2, h3, h4, h5, h6, h7⟩ := h
  exact ⟨S, E, P, q, cap, F, h1.same hs, h2, h3.trans hs, h4, h5, h6, h7⟩

/-- A step. -/
theorem EncAt.put {w0 w1 w' : World} {L : Lay} {x : Nat} {l : List Pk} {k : Nat} {S : MSt} {E : Cas.Enc} {P : Prb} {q : Option Addr} {cap : Nat} {F : Nat → Prop} {p : Pk} {s : CSt} {Z : MSt} (hM : MC w1 L S P q cap x (.enc E) F) (hge : ∀ b, MF L q b ∨ F b → w0.heap.size ≤ b) (hs : Same w0 w1) (hn : (Cdr.enc E).n ≤ 300 * k)
    (hget : l[k]? = some p) (hr : RoomL L S (l.drop k)) (hp : putL L S (l.drop k) (.enc E, P) = s) (ht : tellL S (l.drop k) = Z) (hl : LeftM w1 w' L (tellS S p) x (fun b => MF L q b ∨ F b) (encP L S p (.enc E, P)).2) (hn2 : (encP L S p (.enc E, P)).2.1.n ≤ 300 * k + 300) :
    EncAt w0 w' L x l (k + 1) s Z := by
  have hk : k < l.length := (List.getElem?_eq_some_iff.1 hget).1
  have hdrop : l.drop k = p :: l.drop (k + 1) := by
    rw [List.drop_eq_getElem_cons hk]
    congr 1
    exact (List.getElem?_eq_some_iff.1 hget).2
  rw [hdrop] at hr hp ht
  rw [putL_cons] at hp
  rw [tellL_cons] at ht
  obtain ⟨E1, P1, a1, a2, _⟩ := gets_step (Y := L) (Z := L) rfl rfl rfl hM.mm.par.1 hM.mm.par.2.1 S p E P hM.ok hM.mm.ok hM.mm.par.2.2.1 hr.1
  rw [a1] at hl hn2 hp
  obtain ⟨q', cap', F', k1, k2, k3⟩ := hl
  refine ⟨tellS S p, E1, P1, q', cap', F', k1, fun b hb => ?_, hs.trans' k2 fun b hb e => ?_, by dsimp only at hn2; omega, hr.2, hp, ht⟩
  · rcases k3 b hb with h | h
    · exact hge b h
    · exact Nat.le_trans hs.size h
  · have := hge b e; omega

theorem EncAt.first {w w0 w1 : World} {L : Lay} {l : List Pk} {x : Nat} (hM : MM w0 L firstS firstP none 0) (hge : ∀ b, MF L none b → w.heap.size ≤ b) (hs0 : Same w w0) (hs : Same w0 w1) (hx : x = w0.heap.size) (hE : Enw w1 x Enc.first none 0) (hr : RoomL L firstS l) :
    EncAt w w1 L x l 0 (putL L firstS l (.enc Enc.first, firstP)) (tellL firstS l) := by
  have h0 := hM.beh.1
  have hM1 : MM w1 L firstS firstP none 0 := hM.keeps hs (fun _ h => h.elim) (fun h => h)
  refine ⟨firstS, Enc.first, firstP, none, 0, winF x none, ⟨hM1, ⟨none, 0, hE, rfl⟩, good_first, fun b hb e => ?_, fun e => ?_⟩, fun b hb => ?_, hs0.trans hs, Nat.zero_le _, hr, rfl, rfl⟩
  · have := winF_none hb
    have := hM.lt b e
    omega
  · have := winF_none e; omega
  · rcases hb with h | h
    · exact hge b h
    · have := winF_none h
      have := hs0.size; omega

/-- The end put behind all packets, or not. -/
theorem EncAt.fin {w0 w : World} {L : Lay} {x : Nat} {l : List Pk} {s : CSt} {Z : MSt} (h : EncAt w0 w L x l l.length s Z) : ∃ E P q cap F, s = (.enc E, P) ∧ MC w L Z P q cap x (.enc E) F ∧ (∀ b, MF L q b ∨ F b → w0.heap.size ≤ b) ∧ Same w0 w ∧ (Cdr.enc E).n ≤ 300 * l.length := by
  obtain ⟨S, E, P, q, cap, F, h1, h2, h3, h4, h5, h6, h7⟩ := h
  rw [List.drop_length] at h6 h7
  subst h6 h7
  exact ⟨E, P, q, cap, F, rfl, h1, h2, h3, h4⟩

set_option maxHeartbeats 4000000 in
set_option maxRecDepth 100000 in
theorem encode_any (q : Option Addr) (cap : Nat) (l : List Pk) (lc lp pb : Nat) (e : Bool) (w : World) (hl : Pks w q cap l) (hb : Behind w) (h1 : lc + lp ≤ 4) (h2 : pb ≤ 4) (hr : RoomL (Lay.of lc lp pb 16777216) firstS l) (hn : l.length ≤ 100000) :
    Calls Tryz.prog 9 #[.slice q l.length cap, .agg #[i6 lc, i6 lp, i6 pb], .bool e] w fun z w' => z = .returned (.tuple #[.string ⟨(bytesL (Lay.of lc lp pb 16777216) l e).toArray⟩, i6 0]) ∧ Same w w' := by
  have HGood := hid (fun w0 => good_any lc lp pb w0 h1 h2)
  have HNew := hid (fun w0 hb0 => mnew_any lc lp pb 16777216 w0 hb0 h1 h2 (by decide))
  have HEnc := hid (fun w0 => enew_any w0)
  have HH := hid (And.intro hb (And.intro h1 (And.intro h2 hr)))
  obtain ⟨bs, hbs⟩ : ∃ bs, bytesL (Lay.of lc lp pb 16777216) l e = bs := ⟨_, rfl⟩
  rw [hbs]
  have HBs := hid hbs
  obtain ⟨n, hnl⟩ : ∃ n, l.length = n := ⟨_, rfl⟩
  have hn2 : n ≤ 100000 := by omega
  have HL := hid (And.intro hl hnl)
  rw [hnl]
  clear hl hb h1 h2 hr hn hnl hbs
  go_enter Tryz.func9, Tryz.ntmps9
  go_upto_region 1 with fail
  have hb0 : Blk (w.alloc (.cells #[i6 lc, i6 lp, i6 pb] 26)) w.heap.size #[i6 lc, i6 lp, i6 pb] 26 := (Blk.new _ _ _)
  have hs0 : Same w (w.alloc (.cells #[i6 lc, i6 lp, i6 pb] 26)) := (Keeps.refl _ _).alloc _
  generalize w.alloc (.cells #[i6 lc, i6 lp, i6 pb] 26) = wa at hb0 hs0 ⊢
  generalize w.heap.size = B at hb0 ⊢
  have a0 := hb0.cell 0
  have a1 := hb0.cell 1
  have a2 := hb0.cell 2
  simp only [List.getElem?_toArray, List.getElem?_cons_zero, List.getElem?_cons_succ] at a0 a1 a2
  have HA := hid (And.intro hb0 hs0)
  clear hb0 hs0
  go_upto_region 3 with (go_at_call 29; refine (HGood.out _).mono ?_; rintro z w0 ⟨rfl, hs1⟩)
  have hb1 := HA.out.1.keeps hs1 (fun h => h)
  have b0 := hb1.cell 0
  have b1 := hb1.cell 1
  have b2 := hb1.cell 2
  simp only [List.getElem?_toArray, List.getElem?_cons_zero, List.getElem?_cons_succ] at b0 b1 b2
  have HB := hid (HA.out.2.trans hs1)
  clear hb1 a0 a1 a2 hs1 HA
  go_wp2_with ((go_at_call 30; refine (HNew.out _ (HH.out.1.keeps HB.out (fun h => h))).mono ?_; rintro z w1 ⟨L, rfl, el, ep, eb, em, hM, hge, hs2⟩))
  have hL : L.lc = lc ∧ L.lp = lp ∧ L.pb = pb ∧ L.most = 16777216 := ⟨el, ep, eb, em⟩
  have HM := hid (And.intro hL (And.intro hM (And.intro hge hs2)))
  clear hL hM hge hs2 el ep eb em b0 b1 b2
  obtain ⟨φ0, hφ0⟩ : ∃ φ0, L.φ 0 = φ0 := ⟨_, rfl⟩
  rw [hφ0]
  go_wp2_with fail
  refine (HEnc.out _).mono ?_
  rintro z w2 ⟨rfl, hs3, hE⟩
  obtain ⟨x, hx⟩ : ∃ x, w1.heap.size = x := ⟨_, rfl⟩
  rw [hx] at hE ⊢
  have hrL : RoomL L firstS l := HH.out.2.2.2.most HM.out.1.2.2.2
  have hA := EncAt.first (x := x) HM.out.2.1 HM.out.2.2.1 HM.out.2.2.2 hs3 hx.symm hE hrL
  have HP := hid (putL_congr (Y := Lay.of lc lp pb 16777216) (Z := L) HM.out.1.1 HM.out.1.2.1 HM.out.1.2.2.1 l firstS (.enc Enc.first, firstP))
  generalize putL L firstS l (.enc Enc.first, firstP) = s at hA HP
  generalize hZ : tellL firstS l = Z at hA
  have HZ := hid hZ
  have HFI := hid hA
  have Hφ := hid hφ0
  clear hA hs3 hE hx hrL hZ hφ0
  go_wp2_with fail
  go_loopw [20] (fun s20 wr => ∃ k : Nat, s20 = i6 k ∧ k ≤ n ∧ EncAt w0 wr L x l k s Z) (fun s20 _ => n - (intOf s20).toNat)
  case atStart => exact ⟨0, rfl, Nat.zero_le _, HFI.out⟩
  case round =>
    clear HFI
    obtain ⟨k, rfl, hk, hA⟩ := hrel
    by_cases he : k = n
    · subst he
      have d0 : decide ((k : Int) < (k : Int)) = false := by simp
      have hA := hA
      rw [← HL.out.2] at hA
      obtain ⟨E, P, q1, cap1, F, hs, hM, hge, hsm, hnn⟩ := hA.fin
      rw [HL.out.2] at hnn
      have hP := HP.out
      rw [hs] at hP
      obtain ⟨q2, cap2, hE, hF⟩ := hM.cm
      cases e with
      | false =>
        have hres : bytesL (Lay.of lc lp pb 16777216) l false = E.ended := by
          unfold bytesL codedL
          rw [if_neg (by decide), ← hP]
          rfl
        have HR := hid (HBs.out.symm.trans hres)
        have HEnd := hid (eend_any x cap2 E q2 wr hE hM.ok (by have : E.n ≤ 300 * k := hnn; omega))
        have HS := hid (HB.out.trans hsm)
        clear hM hge hsm hnn hP hs hE hF hA hres
        go_wp2_with (go_at_call 34; refine HEnd.out.mono ?_; rintro z w5 ⟨rfl, hs5⟩)
        go_ret2
        rw [HR.out]
        exact ⟨rfl, HS.out.trans hs5⟩
      | true =>
        obtain ⟨E2, P2, a1, a2, _⟩ := gets_end (Y := L) (Z := L) rfl rfl rfl hM.mm.par.1 hM.mm.par.2.1 Z E P hM.ok hM.mm.ok hM.mm.par.2.2.1
        have hres : bytesL (Lay.of lc lp pb 16777216) l true = E2.ended := by
          unfold bytesL codedL
          rw [if_pos rfl, ← hP, endP_congr (Y := L) (Z := Lay.of lc lp pb 16777216) HM.out.1.1.symm HM.out.1.2.1.symm HM.out.1.2.2.1.symm, HZ.out, a1]
          rfl
        have HR := hid (HBs.out.symm.trans hres)
        have HEndP := hid (mputend_any wr L Z P q1 cap1 x E F _ hM hnn (by omega))
        rw [a1, Hφ.out] at HEndP
        have HS := hid (HB.out.trans hsm)
        have HGe := hid hge
        have HEnd := hid (fun (w5 : World) q5 cap5 (h5 : Enw w5 x E2 q5 cap5) (hn5 : (Cdr.enc E2).n ≤ 300 * k + 300) => eend_any x cap5 E2 q5 w5 h5 a2 (by have : E2.n ≤ 300 * k + 300 := hn5; omega))
        have HS0 := hid hsm
        clear hM hge hsm hnn hP hs hE hF hA hres a1 a2
        go_wp2_with fail
        refine HEndP.out.mono ?_
        rintro z w5 ⟨rfl, ⟨q5, cap5, F5, hM5, hK5, hG5⟩, hn5⟩
        obtain ⟨q6, cap6, hE6, hF6⟩ := hM5.cm
        have hE5 := HEnd.out w5 q6 cap6 hE6 hn5
        have hS5 : Same w w5 := HS.out.trans' hK5 fun b hb e => by
          have h1 := HGe.out b e
          have h2 := HB.out.size
          omega
        have HE5 := hid hE5
        have HS5 := hid hS5
        clear hE5 hS5 hM5 hK5 hG5 hn5 hE6 hF6
        go_wp2_with (go_at_call 34; refine HE5.out.mono ?_; rintro z w6 ⟨rfl, hs6⟩)
        go_ret2
        rw [HR.out]
        exact ⟨rfl, HS5.out.trans hs6⟩
    · have hlt : k < n := by omega
      have d0 : decide ((k : Int) < (n : Int)) = true := by simpa using hlt
      have fk : IntKind.i64.wrap ((k : Int) + 1) = (k : Int) + 1 := IntWalk.i64_in _ (by omega)
      have hk0 : (0 : Int) ≤ (k : Int) := by omega
      obtain ⟨g, rfl⟩ := HL.out.1.ex (by have := HL.out.2; omega)
      have hkl : k < l.length := by have := HL.out.2; omega
      have hget : l[k]? = some l[k] := by simp [hkl]
      generalize l[k] = pkt at hget
      obtain ⟨S, E, P, q1, cap1, F, hM, hge, hsm, hnn, hr, hp, ht⟩ := hA
      have hsw : Same w wr := HB.out.trans hsm
      have hat := (HL.out.1.keeps hsw (fun _ _ h => h)).at k _ hget
      have hgl : g < wr.heap.size := (HL.out.1.keeps hsw (fun _ _ h => h)).lt g rfl
      have hroom : Room L S pkt := by
        rw [List.drop_eq_getElem_cons hkl] at hr
        have e : l[k] = pkt := (List.getElem?_eq_some_iff.1 hget).2
        rw [e] at hr
        exact hr.1
      obtain ⟨pk_, pd, pl, py⟩ := pkt
      dsimp only at hat
      have HA := hid (And.intro hM (And.intro hge (And.intro hsm (And.intro hnn (And.intro hget (And.intro hr (And.intro hp ht)))))))
      have HPut := hid (fun w0 (hm : MC w0 L S P q1 cap1 x (.enc E) F) => mput_any w0 L S P q1 cap1 x E F _ _ hm hnn (by omega) hroom)
      rw [Hφ.out] at HPut
      obtain ⟨h0, h1, h2, h3⟩ := hat
      clear hM hge hsm hnn hget hr hp ht hroom he hkl hsw
      go_wp2_with fail
      refine (HPut.out _ (HA.out.1.same ((Keeps.refl _ _).alloc _))).mono ?_
      rintro z w3 ⟨rfl, hleft, hn3⟩
      have HQ := hid (EncAt.put (HA.out.1.same ((Keeps.refl _ _).alloc _)) HA.out.2.1 (HA.out.2.2.1.alloc _) HA.out.2.2.2.1 HA.out.2.2.2.2.1 HA.out.2.2.2.2.2.1 HA.out.2.2.2.2.2.2.1 HA.out.2.2.2.2.2.2.2 hleft hn3)
      clear hleft hn3
      go_wp2_with fail
      go_roundw
      case rel => exact ⟨k + 1, by go_num, by omega, HQ.out⟩
      case measure => simp [intOf]; omega
end Go.Proofs.YtalopgbkjgjppaaGreatDoor
