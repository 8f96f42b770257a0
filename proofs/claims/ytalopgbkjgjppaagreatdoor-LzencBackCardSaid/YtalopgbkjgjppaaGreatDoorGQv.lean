/- LzencBack: for any three numbers, any packets and with the end or without it, what the coder writes of the packets that fit is read again, packet by packet, and tells the same text as reps, and the call returns true; no condition but what the card ties: the variable state.behind holds what the program's text lays. -/
import Derived.Test.YtalopgbkjgjppaaGreatDoorQs
import Derived.Test.YtalopgbkjgjppaaGreatDoorGQt
import Derived.Test.YtalopgbkjgjppaaGreatDoorGSy
import Derived.Test.YtalopgbkjgjppaaGreatDoorEn
import Derived.Test.YtalopgbkjgjppaaGreatDoorDc
import Derived.Test.YtalopgbkjgjppaaGreatDoorGRow
import Derived.Test.YtalopgbkjgjppaaGreatDoorCards
import Derived.Test.YtalopgbkjgjppaaGreatDoorTie
import Derived.SevenTiedAt
/- The walk of law 12's LzencBack. -/
namespace Go.Proofs.YtalopgbkjgjppaaGreatDoor
open Go.RowKit Go.Cas Go.Cas.Enc

set_option maxHeartbeats 8000000 in
set_option maxRecDepth 100000 in
theorem lzback_any (x0 x1 x2 : UInt8) (q : Option Addr) (n cap : Nat) (L : List Pk) (ee : Bool) (w : World) (hn : n ≤ maxLen) (hL : L.length = min n 40) (hl : OutPks w q L) (hb : Behind w) :
    Calls Tryz.prog 3 #[.agg #[b8 x0, b8 x1, b8 x2], .slice q n cap, .bool ee] w fun e w' => e = .returned (.bool true) ∧ Same w w' := by
  have HCo := hid (fun (lc lp pb : Nat) (h1 : lc + lp ≤ 4) (h2 : pb ≤ 4) (w0 : World) (hs : Same w w0) => r11coded_any q n cap L lc lp pb ee w0 hn hL (fun k p hk => by
    obtain ⟨a, h1, h2, h3, h4, h5, h6⟩ := hl k p hk
    have hb : ∀ j, (a.add j).block < w.heap.size := fun j => by unfold Addr.add; split <;> exact h2
    exact ⟨a, h1, Nat.lt_of_lt_of_le h2 hs.size, (hs.cell (hb _) (fun h => h)).trans h3, (hs.cell (hb _) (fun h => h)).trans h4, (hs.cell (hb _) (fun h => h)).trans h5, (hs.cell (hb _) (fun h => h)).trans h6⟩) (by omega) (by omega) h2)
  have HB := hid hb
  clear hl hL hb
  go_enter Tryz.func3, Tryz.ntmps3
  go_upto_region 1 with fail
  have hb0 : Blk (w.alloc (.cells #[b8 x0, b8 x1, b8 x2] 22)) w.heap.size #[b8 x0, b8 x1, b8 x2] 22 := Blk.new _ _ _
  have hs0 : Same w (w.alloc (.cells #[b8 x0, b8 x1, b8 x2] 22)) := (Keeps.refl _ _).alloc _
  generalize w.alloc (.cells #[b8 x0, b8 x1, b8 x2] 22) = w0 at hb0 hs0 ⊢
  generalize w.heap.size = B at hb0 ⊢
  have HS0 := hid (And.intro hb0 hs0)
  clear hb0 hs0
  go_wp2_with fail
  refine (speaks12_any _ (HB.out.keeps HS0.out.2 (fun h => h))).mono ?_
  rintro z w1 ⟨rfl, hs1⟩
  have hb1 := HS0.out.1.keeps hs1 (fun h => h)
  have a0 := hb1.cell 0
  have a1 := hb1.cell 1
  have a2 := hb1.cell 2
  have al := hb1.lt
  simp only [List.getElem?_toArray, List.getElem?_cons_zero, List.getElem?_cons_succ] at a0 a1 a2
  have HS1 := hid (HS0.out.2.trans hs1)
  clear hb1 hs1 HS0
  obtain ⟨lc, lp, pb, hlc, hpb, hpar⟩ := r11params_any x0 x1 x2 w1
  have HPar := hid hpar
  have HLe := hid (And.intro hlc hpb)
  clear hpar hlc hpb
  go_wp2_with fail
  refine HPar.out.mono ?_
  rintro z w2 ⟨rfl, hs2⟩
  have HS2 := hid (HS1.out.trans hs2)
  clear hs2 a0 a1 a2 al HPar HS1
  go_upto_region 4 with fail
  have hb3 : Blk (w2.alloc (.cells #[i6 lc, i6 lp, i6 pb] 26)) w2.heap.size #[i6 lc, i6 lp, i6 pb] 26 := Blk.new _ _ _
  have hs3 : Same w2 (w2.alloc (.cells #[i6 lc, i6 lp, i6 pb] 26)) := (Keeps.refl _ _).alloc _
  generalize w2.alloc (.cells #[i6 lc, i6 lp, i6 pb] 26) = w3 at hb3 hs3 ⊢
  generalize w2.heap.size = B at hb3 ⊢
  have a0 := hb3.cell 0
  have a1 := hb3.cell 1
  have a2 := hb3.cell 2
  have al := hb3.lt
  simp only [List.getElem?_toArray, List.getElem?_cons_zero, List.getElem?_cons_succ] at a0 a1 a2
  have HS3 := hid (And.intro (HS2.out.trans hs3) hb3)
  clear hb3 hs3 HS2
  go_wp2_with fail
  refine (HCo.out lc lp pb HLe.out.1 HLe.out.2 _ HS3.out.1).mono ?_
  rintro z w4 ⟨q1, c1, G, t, s, rfl, hA, hgA, hs4, hGl, htl, hap⟩
  have hb4 := HS3.out.2.keeps hs4 (fun h => h)
  have a0 := hb4.cell 0
  have a1 := hb4.cell 1
  have a2 := hb4.cell 2
  have al := hb4.lt
  simp only [List.getElem?_toArray, List.getElem?_cons_zero, List.getElem?_cons_succ] at a0 a1 a2
  have HS4 := hid (And.intro (HS3.out.1.trans hs4) hb4)
  have hapR : applyL (repeatL G) (t.length : Int) = (t, 0) := by rw [repeatL_tells _ _ (by rw [hap]), hap]
  have hlen : (repeatL G).length ≤ 40 := by
    have h := repeatGo_length G (1, 1, 1, 1) (1, 1, 1, 1)
    have e : (repeatL G).length = G.length := h
    omega
  obtain ⟨N, hN⟩ : ∃ N, t.length = N := ⟨_, rfl⟩
  have hbs : (⟨t.toArray⟩ : ByteArray).size = N := by rw [← hN]; rfl
  obtain ⟨R, hR⟩ : ∃ R, (if ee = true then 1048576 else N) = R := ⟨_, rfl⟩
  obtain ⟨nI, hnI⟩ : ∃ nI : Int, (if ee = true then -1 else (N : Int)) = nI := ⟨_, rfl⟩
  have hRl : t.length ≤ R ∧ R ≤ 100000000 := by rw [← hR]; split <;> omega
  obtain ⟨hr, htx, hrd⟩ := coded_back (lc := lc) (lp := lp) (pb := pb) (R := R) ee HLe.out.1 HLe.out.2 hapR hRl.1 hRl.2 (by omega)
  have hcond : if ee = true then nI < 0 ∧ (R : Int) = 1048576 else nI = (tellL firstS (repeatL G)).text.length ∧ nI ≤ 1048576 ∧ (R : Int) = nI := by
    rw [htx, hN, ← hR, ← hnI]
    cases ee
    · simp; omega
    · simp
  have HRp := hid (fun (w0 : World) (h : Pks w0 q1 c1 G) => repeat_any q1 c1 G w0 h (by omega))
  have HA := hid hA
  generalize repeatL G = RL at *
  have HEn := hid (fun (q : Option Addr) (cap : Nat) (w0 : World) (h : Pks w0 q cap RL) (hb : Behind w0) => encode_any q cap RL lc lp pb ee w0 h hb HLe.out.1 HLe.out.2 hr (by omega))
  generalize bytesL (Lay.of lc lp pb 16777216) RL ee = BS at *
  have HDe := hid (fun (w0 : World) (hb : Behind w0) => decodeT_any BS lc lp pb R nI 1048576 RL ee w0 hb HLe.out.1 HLe.out.2 (by omega) (by omega) hcond hrd (by omega))
  have HDp := hid (fun (w0 : World) (hb : Behind w0) => decodeP_any BS lc lp pb R nI 1048576 RL ee w0 hb HLe.out.1 HLe.out.2 (by omega) (by omega) hcond hrd (by omega))
  rw [htx] at HDe
  have HnI := hid hnI
  have hbs' : (N : Int) = N := rfl
  have HLen := hid hlen
  clear hA hgA hs4 hb4 hap hapR hlen hN hR hRl hr htx hrd hcond hGl htl HCo HS3 hbs' hnI
  go_upto_if 34 with fail
  go_cut [11] (fun v wx => v = i6 nI ∧ wx = w4)
  case first =>
    have hnI := HnI.out
    cases ee
    · go_wp2_with fail
      go_meet
      exact ⟨by rw [← hnI]; simp, rfl⟩
    · go_wp2_with fail
      go_meet
      exact ⟨by rw [← hnI]; simp, rfl⟩
  case rest =>
    obtain ⟨rfl, rfl⟩ := hcut
    obtain ⟨w4, rfl⟩ : ∃ w4 : World, w4 = wc := ⟨_, rfl⟩
    go_wp2_with fail
    refine (HRp.out _ HA.out).mono ?_
    rintro z w5 ⟨q5, c5, rfl, hs5, hA5, _⟩
    have hb5 := HS4.out.2.keeps hs5 (fun h => h)
    have HS5 := hid (And.intro (HS4.out.1.trans hs5) hb5)
    have HA5 := hid hA5
    clear a0 a1 a2 al hs5 hA5 hb5
    have a0 := HS5.out.2.cell 0
    have a1 := HS5.out.2.cell 1
    have a2 := HS5.out.2.cell 2
    have al := HS5.out.2.lt
    simp only [List.getElem?_toArray, List.getElem?_cons_zero, List.getElem?_cons_succ] at a0 a1 a2
    go_wp2_with fail
    refine (HEn.out q5 c5 _ HA5.out (HB.out.keeps HS5.out.1 (fun h => h))).mono ?_
    rintro z w6 ⟨rfl, hs6⟩
    have HS6 := hid (And.intro (HS5.out.1.trans hs6) (And.intro (HS5.out.2.keeps hs6 (fun h => h)) (HA5.out.keeps hs6 (fun _ _ h => h))))
    clear a0 a1 a2 al hs6
    have a0 := HS6.out.2.1.cell 0
    have a1 := HS6.out.2.1.cell 1
    have a2 := HS6.out.2.1.cell 2
    have al := HS6.out.2.1.lt
    simp only [List.getElem?_toArray, List.getElem?_cons_zero, List.getElem?_cons_succ] at a0 a1 a2
    go_wp2_with fail
    refine (HDp.out _ (HB.out.keeps HS6.out.1 (fun h => h))).mono ?_
    rintro z w7 ⟨q7, c7, rfl, hA7, hg7, hs7⟩
    have HS7 := hid (And.intro (HS6.out.1.trans hs7) (And.intro (HS6.out.2.1.keeps hs7 (fun h => h)) (And.intro (HS6.out.2.2.keeps hs7 (fun _ _ h => h)) hA7)))
    clear a0 a1 a2 al hs7 hA7 hg7
    have a0 := HS7.out.2.1.cell 0
    have a1 := HS7.out.2.1.cell 1
    have a2 := HS7.out.2.1.cell 2
    have al := HS7.out.2.1.lt
    simp only [List.getElem?_toArray, List.getElem?_cons_zero, List.getElem?_cons_succ] at a0 a1 a2
    go_wp2_with fail
    refine (HDe.out _ (HB.out.keeps HS7.out.1 (fun h => h))).mono ?_
    rintro z w8 ⟨rfl, hs8⟩
    have HS8 := hid (And.intro (HS7.out.1.trans hs8) (And.intro (HS7.out.2.2.1.keeps hs8 (fun _ _ h => h)) (HS7.out.2.2.2.keeps hs8 (fun _ _ h => h))))
    clear a0 a1 a2 al hs8
    obtain ⟨m, hm⟩ : ∃ m, RL.length = m := ⟨_, rfl⟩
    have HM := hid hm
    have hm2 : m ≤ 40 := by have := HLen.out; omega
    rw [hm]
    clear hm
    go_wp2_with fail
    go_loopw [19] (fun i wx => ∃ k : Nat, k ≤ m ∧ i = i6 k ∧ Same w8 wx) (fun i _ => m - (intOf i).toNat)
    case atStart => exact ⟨0, Nat.zero_le _, rfl, Keeps.refl _ _⟩
    case round =>
      obtain ⟨k, hk, rfl, hsm⟩ := hrel
      by_cases hlt : k < m
      · have hkl : k < RL.length := by have := HM.out; omega
        obtain ⟨g5, rfl⟩ := HS8.out.2.1.ex (by omega)
        obtain ⟨g7, rfl⟩ := HS8.out.2.2.ex (by omega)
        have hget : RL[k]? = some RL[k] := by simp [hkl]
        have e1 := (HS8.out.2.1.keeps hsm (fun _ _ h => h)).at k _ hget
        have e2 := (HS8.out.2.2.keeps hsm (fun _ _ h => h)).at k _ hget
        have l1 := (HS8.out.2.1.keeps hsm (fun _ _ h => h)).lt g5 rfl
        have l2 := (HS8.out.2.2.keeps hsm (fun _ _ h => h)).lt g7 rfl
        generalize RL[k] = pp at *
        obtain ⟨pk_, pd, pl, py⟩ := pp
        dsimp only at e1 e2
        clear hget
        go_wp2_with fail
        go_quiet (fail)
        go_wp2_with fail
        exact ⟨⟨k + 1, by omega, by go_num, hsm.drewN _⟩, by simp [intOf]; omega⟩
      · obtain rfl : k = m := by omega
        go_wp2_with fail
        go_ret
        exact ⟨rfl, HS8.out.1.trans hsm⟩
end Go.Proofs.YtalopgbkjgjppaaGreatDoor

namespace Go.Proofs.YtalopgbkjgjppaaGreatDoor
open Go Go.ChangeShapes Go.WideShapes Go.ChangeAt Go.RowKit Go.Cas Go.Cas.Enc

theorem Tryz.ownZ : ownKnob Tryz.prog.godebug = none := by kernel_rfl
theorem Tryz.laidOutZ : laidOutB Tryz.prog = true := by kernel_rfl

theorem u8_of (z : Int) (h : (Lit.int .u8 z).wf = true) : ∃ y : UInt8, (.int .u8 z : Value) = b8 y := by
  simp [Lit.wf, IntKind.min, IntKind.max, IntKind.signed, IntKind.bits] at h
  refine ⟨UInt8.ofNat z.toNat, ?_⟩
  show Value.int .u8 z = Value.int .u8 (((UInt8.ofNat z.toNat).toNat : Nat) : Int)
  congr 1
  rw [UInt8.toNat_ofNat']
  omega

set_option maxRecDepth 100000 in
theorem open_pk {H : Type} {enc : TypeId × Value → H} {W : World} {n : Nat} {cs : List Value} {x : DataW H × List MemPlace} (hl : cs.length = 4)
    (h : DataW.trod enc Tryz.prog W 0 (fun _ => true) true n 59 cs = some x) : ∃ p : Pk, cs = p.cells := by
  obtain ⟨xs, m, _, _, _, hxl, hx⟩ := DataW.trod_struct Tryz.underlying59 h
  have c3 : Tryz.prog.cellsOf 3 = 1 := by kernel_rfl
  have c5 : Tryz.prog.cellsOf 5 = 1 := by kernel_rfl
  have hxl4 : xs.length = 4 := hxl
  match cs, hl with
  | [c0, c1, c2, c3'], _ =>
    have e0 : DataW.trod enc Tryz.prog W 0 (fun _ => true) true m 3 (([c0, c1, c2, c3'].drop 0).take (Tryz.prog.cellsOf 3)) = xs[0]? := hx 0 _ rfl
    have e1 : DataW.trod enc Tryz.prog W 0 (fun _ => true) true m 3 (([c0, c1, c2, c3'].drop 1).take (Tryz.prog.cellsOf 3)) = xs[1]? := hx 1 _ rfl
    have e2 : DataW.trod enc Tryz.prog W 0 (fun _ => true) true m 3 (([c0, c1, c2, c3'].drop 2).take (Tryz.prog.cellsOf 3)) = xs[2]? := hx 2 _ rfl
    have e3 : DataW.trod enc Tryz.prog W 0 (fun _ => true) true m 5 (([c0, c1, c2, c3'].drop 3).take (Tryz.prog.cellsOf 5)) = xs[3]? := hx 3 _ rfl
    rw [c3] at e0 e1 e2
    rw [c5] at e3
    rw [List.getElem?_eq_getElem (by omega)] at e0 e1 e2 e3
    obtain ⟨n0, h0, _, _⟩ := DataW.trod_int Tryz.underlying3 e0
    obtain ⟨n1, h1, _, _⟩ := DataW.trod_int Tryz.underlying3 e1
    obtain ⟨n2, h2, _, _⟩ := DataW.trod_int Tryz.underlying3 e2
    obtain ⟨n3, h3, _, w3⟩ := DataW.trod_int Tryz.underlying5 e3
    simp at h0 h1 h2 h3
    obtain ⟨y, hy⟩ := u8_of n3 w3
    exact ⟨⟨n0, n1, n2, y⟩, by rw [h0, h1, h2, h3, hy]; rfl⟩

set_option maxRecDepth 100000 in
theorem open_pks {H : Type} {enc : TypeId × Value → H} {W : World} {base : Nat} {v : Value} {d : DataW H} {p : List MemPlace} (hv : Value.okWide Tryz.prog W .any base 23 v)
    (h : DataW.Trod enc Tryz.prog W 0 (fun _ => true) true 23 v d p) :
    ∃ (q : Option Addr) (n cap : Nat) (L : List Pk), v = .slice q n cap ∧ n ≤ maxLen ∧ L.length = min n 40 ∧ OutPks W q L := by
  have hC : Tryz.prog.cellsOf 59 = 4 := by kernel_rfl
  obtain ⟨q, n, cap, rfl⟩ := okWide_slice Tryz.underlying23 hv
  obtain ⟨fuel, hf⟩ := h
  rcases Go.Deep.open_slice Tryz.underlying23 hf with ⟨hcs, _⟩ | ⟨a, len, cap', m, k, D, Pl, hcs, _, hl, hm, hmm, hx, hcell⟩
  · simp [Value.cells] at hcs
    obtain ⟨rfl, rfl, rfl⟩ := hcs
    exact ⟨none, 0, 0, [], rfl, Nat.zero_le _, rfl, by intro k p hk; simp at hk⟩
  · simp [Value.cells] at hcs
    obtain ⟨rfl, rfl, rfl⟩ := hcs
    simp at hmm
    subst hmm
    have H1 : ∀ i, ∃ p : Pk, i < n → a.block < W.heap.size ∧ W.cell? (a.add (i * 4)) = some (i6 p.k) ∧ W.cell? (a.add (i * 4 + 1)) = some (i6 p.d) ∧ W.cell? (a.add (i * 4 + 2)) = some (i6 p.l) ∧ W.cell? (a.add (i * 4 + 3)) = some (b8 p.y) := by
      intro i
      by_cases hi : i < n
      · obtain ⟨cs', h1, h2⟩ := hcell i (by omega)
        rw [hC] at h1
        obtain ⟨_, hlen, hat⟩ := World.cells?_some h1
        obtain ⟨p, rfl⟩ := open_pk hlen h2
        have e0 := hat 0 (by omega)
        have e1 := hat 1 (by omega)
        have e2 := hat 2 (by omega)
        have e3 := hat 3 (by omega)
        rw [Go.Deep.add_add] at e0 e1 e2 e3
        have hb := World.block_lt_of_cell? W (a.add (i * 4 + 0)) (by rw [e0]; rfl)
        exact ⟨p, fun _ => ⟨by unfold Addr.add at hb; split at hb <;> exact hb, e0, e1, e2, e3⟩⟩
      · exact ⟨⟨0, 0, 0, 0⟩, fun h => absurd h hi⟩
    obtain ⟨V, hV⟩ := Classical.axiomOfChoice H1
    refine ⟨some a, n, _, (List.range (min n 40)).map V, rfl, by omega, by simp, ?_⟩
    intro i p hp
    have hi : i < min n 40 := by
      have := (List.getElem?_eq_some_iff.1 hp).1
      simpa using this
    simp only [List.getElem?_map] at hp
    rw [List.getElem?_range hi] at hp
    simp only [Option.map_some, Option.some.injEq] at hp
    subst hp
    exact ⟨a, rfl, hV i (by omega)⟩

set_option maxRecDepth 100000 in
theorem open_arr3 {H : Type} {enc : TypeId × Value → H} {W : World} {base : Nat} {v : Value} {d : DataW H} {p : List MemPlace} (hv : Value.okWide Tryz.prog W .any base 22 v)
    (h : DataW.Trod enc Tryz.prog W 0 (fun _ => true) true 22 v d p) : ∃ a b c : UInt8, v = .agg #[b8 a, b8 b, b8 c] := by
  unfold Value.okWide at hv
  rw [Tryz.underlying22] at hv
  obtain ⟨cs, rfl, hsz, _⟩ := hv
  have hC : Tryz.prog.cellsOf 22 = 3 := by kernel_rfl
  have hC3 : Tryz.prog.cellsOf 5 = 1 := by kernel_rfl
  rw [hC] at hsz
  obtain ⟨fuel, hf⟩ := h
  obtain ⟨xs, m, _, _, _, hxl, hx⟩ := DataW.trod_array Tryz.underlying22 hf
  obtain ⟨l⟩ := cs
  match l, hsz with
  | [c0, c1, c2], _ =>
    have e : ∀ i, i < 3 → ∃ x, DataW.trod enc Tryz.prog W 0 (fun _ => true) true m 5 (([c0, c1, c2].drop i).take 1) = some x := by
      intro i hi
      have := hx i hi
      rw [hC3, Nat.mul_one] at this
      refine ⟨xs[i], ?_⟩
      rw [← List.getElem?_eq_getElem]
      simpa [Value.cells] using this
    obtain ⟨x0, e0⟩ := e 0 (by omega)
    obtain ⟨x1, e1⟩ := e 1 (by omega)
    obtain ⟨x2, e2⟩ := e 2 (by omega)
    obtain ⟨n0, h0, _, w0⟩ := DataW.trod_int Tryz.underlying5 e0
    obtain ⟨n1, h1, _, w1⟩ := DataW.trod_int Tryz.underlying5 e1
    obtain ⟨n2, h2, _, w2⟩ := DataW.trod_int Tryz.underlying5 e2
    simp at h0 h1 h2
    obtain ⟨y0, hy0⟩ := u8_of n0 w0
    obtain ⟨y1, hy1⟩ := u8_of n1 w1
    obtain ⟨y2, hy2⟩ := u8_of n2 w2
    exact ⟨y0, y1, y2, by rw [h0, h1, h2, hy0, hy1, hy2]⟩

set_option maxRecDepth 100000 in
theorem lzencBack_lifted (os : Os) (started : os.Started) (H : Type) (enc : TypeId × Value → H) :
    ReturnsInHanded {} Tryz.checked os 3 .any (fun w args => (Rows.lzencBackSpec.pre enc Tryz.prog Tryz.f3 [] false w args ∧ laidMetH Tryz.prog [("cassone/state.behind", Rows.laid_cassone_state_behind)] w) ∧ sizedMet enc Tryz.prog Tryz.f3 (OpenSpec.ofChange Rows.lzencBackSpec) false w args)
      (Rows.lzencBackSpec.post enc Tryz.prog Tryz.f3 false true false false) := by
  refine returnsInHanded_of_change_and (C := Tryz.checked) (X := fun w _ => laidMetH Tryz.prog [("cassone/state.behind", Rows.laid_cassone_state_behind)] w) (fun _ _ _ hh h => h.of_heap hh) Tryz.ownZ started (by kernel_rfl) Tryz.func3
    (ChangeSpec.witness_shaped (enc := enc) (C := Tryz.checked) (os := os) (X := fun w _ => laidMetH Tryz.prog [("cassone/state.behind", Rows.laid_cassone_state_behind)] w) false (World.doorLaid Tryz.prog 17 os) #[.agg #[.int .u8 0, .int .u8 0, .int .u8 0], .slice none 0 0, .bool false] 8 rfl (World.shaped_of_RefB (by kernel_rfl) (by kernel_rfl)) (by kernel_rfl) (by kernel_rfl) (by kernel_rfl) (door_met os _)) ?_
  intro W base args ds gs before hval0 hW _ _ hLaid _
  have hval : ∀ (j : Nat) t v, Tryz.f3.params[j]? = some t → args[j]? = some v → Value.okWide Tryz.prog W .any base t v := hval0
  have hW' := hW
  obtain ⟨p, q, hA0, hV, rfl, hfz, hnd⟩ := hW
  have hA : DataW.TrodAll enc Tryz.prog W 0 (fun _ => true) true Tryz.f3.params.toList args.toList ds p := hA0
  rw [Tryz.params3] at hA hval
  obtain ⟨v0, v1, v2, d0, d1, d2, p0, p1, p2, rfl, rfl, rfl, h0, h1, h2⟩ := trodAll_three hA
  obtain ⟨rfl, rfl⟩ := trodVars_none hV
  obtain ⟨a, b, c, rfl⟩ := open_arr3 (hval 0 22 v0 rfl rfl) h0
  obtain ⟨aa, n, cap, L, rfl, hn, hL, hl⟩ := open_pks (hval 1 23 v1 rfl rfl) h1
  obtain ⟨ee, rfl, _⟩ := open_bool Tryz.underlying4 (hval 2 4 v2 rfl rfl) h2
  refine (lzback_any a b c aa n cap L ee W hn hL hl (behind_of_laid hLaid)).mono fun z W' ⟨he, hs⟩ => ?_
  subst he
  exact ⟨_, rfl, law_post Tryz.laidOutZ rfl (by rw [Tryz.params3]; intro t ht; simp at ht; rcases ht with rfl | rfl | rfl <;> exact ⟨by kernel_rfl, of_decide_eq_true (by kernel_rfl)⟩) 4 (by kernel_rfl) Tryz.underlying4 hW' rfl hs⟩

theorem lzencBack_row : Rows.LzencBackSaid :=
  OpenClaim.holds_of_wide 3 Tryz.f3 rfl rfl rfl rfl rfl rfl rfl ⟨rfl, rfl, rfl, rfl, rfl⟩ rfl rfl rfl rfl rfl (by kernel_rfl) Tryz.func3 (by kernel_rfl)
    (of_decide_eq_true (by kernel_rfl)) (by unfold Func.isWrapper; first | (rw [if_pos (by decide +kernel)]; kernel_rfl) | (rw [if_neg (by decide +kernel)]; exact ⟨rfl, rfl⟩))
    (fun os started H enc _ => lzencBack_lifted os started H enc)

theorem lzencBack_holds : Rows.LzencBackCardSaid :=
  Claim7.holds_tied_plain_at .later [] [.data] true Rows.lzencBackCard.stood.harness false
    lzencBack_row (fun _ h => by cases h) (by kernel_rfl) (fun _ h => by cases h) lzencBack_row_tie rfl ⟨rfl, rfl⟩ (by kernel_rfl) rfl
    (fun f fn hf hfn => by
      obtain rfl : f = 3 := Option.some.inj ((show Tryz.prog.funcNamed "cassone/cassonelaw12.LzencBack" = some 3 by kernel_rfl).symm.trans hf) |>.symm
      obtain rfl : fn = Tryz.f3 := (Option.some.inj (Tryz.func3.symm.trans hfn)).symm
      exact ⟨by kernel_rfl, fun j t ht => by
        rw [Tryz.params3] at ht
        have hm : t ∈ [22, 23, 4] := by simpa using Array.mem_of_getElem? ht
        have hall : ([22, 23, 4].all fun u => !Tryz.prog.wantsStandIn u) = true := by kernel_rfl
        exact (show Tryz.prog.wantsStandIn t = false by simpa using List.all_eq_true.1 hall t hm)⟩)
    (by kernel_rfl)
#print axioms lzencBack_holds
end Go.Proofs.YtalopgbkjgjppaaGreatDoor
