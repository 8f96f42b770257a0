/- Part of a proof: Ox, Oy. -/
import Derived.Test.YtalopgbkjgjppaaGreatDoorGTold
import Derived.Test.YtalopgbkjgjppaaGreatDoorGRf
/- price.Common and Good; optimal.Parse; what cassonelaw16.speaks asks. -/
namespace Go.Proofs.YtalopgbkjgjppaaGreatDoor
open Go.RowKit Go.Cas

def commonT : Tab := ⟨34, 20, 16, 36, 5⟩
theorem commonT_good : commonT.good := by unfold Tab.good okP commonT; dsimp only; omega

set_option maxHeartbeats 1000000 in
theorem common_any (w : World) : Calls Tryz.prog 37 #[] w fun z w' => z = .returned commonT.val ∧ Same w w' := by
  go_enter Tryz.func37, Tryz.ntmps37
  go_wp2_with fail
  refine bodyPost_ret (v := .agg #[i6 34, i6 20, i6 16, i6 36, i6 5]) (by simp [results, Tryz.results37, go_sem]) rfl ⟨rfl, ?_⟩
  repeat (first | exact Keeps.refl _ _ | refine Keeps.drew ?_ | refine Keeps.drewN ?_ _ | refine Keeps.alloc ?_ _ | refine Keeps.setCell ?_ (by simp; try omega) _)

def Tab.nth (t : Tab) (k : Nat) : Int := ([t.lit, t.mat, t.near, t.far, t.bit][k]?).getD 0
theorem five_cases {k : Nat} (h : k < 5) : k = 0 ∨ k = 1 ∨ k = 2 ∨ k = 3 ∨ k = 4 := by omega
theorem Tab.good_iff (t : Tab) : t.good ↔ ∀ k, k < 5 → okP (t.nth k) := by
  constructor
  · rintro ⟨h0, h1, h2, h3, h4⟩ k hk
    rcases five_cases hk with rfl | rfl | rfl | rfl | rfl
    · exact h0
    · exact h1
    · exact h2
    · exact h3
    · exact h4
  · intro h
    exact ⟨h 0 (by decide), h 1 (by decide), h 2 (by decide), h 3 (by decide), h 4 (by decide)⟩

theorem run_nth (t : Tab) (k : Nat) (hk : k < 5) (w : World) : (Instr.index 88 (.agg #[i6 t.lit, i6 t.mat, i6 t.near, i6 t.far, i6 t.bit]) (i6 (k : Int))).run Tryz.prog w = .ok (i6 (t.nth k)) w := by
  rcases five_cases hk with rfl | rfl | rfl | rfl | rfl <;> kernel_rfl

set_option maxHeartbeats 4000000 in
set_option maxRecDepth 100000 in
theorem pgood_any (t : Tab) (g : Bool) (hg : g = true ↔ t.good) (w : World) : Calls Tryz.prog 13 #[t.val] w fun z w' => z = .returned (.bool g) ∧ Same w w' := by
  have HG := hid hg
  have HI := hid (run_nth t)
  unfold Tab.val
  clear hg
  go_enter Tryz.func13, Tryz.ntmps13
  go_wp2_with fail
  go_loopw [16] (fun s16 wx => ∃ k : Nat, s16 = i6 k ∧ k ≤ 5 ∧ (∀ j, j < k → okP (t.nth j)) ∧ Same w wx) (fun s16 _ => 5 - (intOf s16).toNat)
  case atStart => exact ⟨0, rfl, by omega, fun j hj => by omega, (Keeps.refl _ _).alloc _⟩
  case round =>
    obtain ⟨k, rfl, hk, hall, hsm⟩ := hrel
    by_cases hk5 : k < 5
    · have d0 : decide ((k : Int) < 5) = true := by simp; omega
      have hix := fun w0 => HI.out k hk5 w0
      obtain ⟨x, hx⟩ : ∃ x, t.nth k = x := ⟨_, rfl⟩
      rw [hx] at hix
      have HX := hid hx
      have HA := hid hall
      clear hx hall
      by_cases h1 : x < 1
      · obtain rfl : g = false := by
          rcases Bool.eq_false_or_eq_true g with e | e
          · have := (t.good_iff.1 (HG.out.1 e)) k hk5
            rw [HX.out] at this
            unfold okP at this
            omega
          · exact e
        have d1 : decide (x < 1) = true := by simpa using h1
        go_wp2_with fail
        go_ret
        exact ⟨rfl, hsm⟩
      · have d1 : decide (x < 1) = false := by simpa using h1
        by_cases h2 : 10000 < x
        · obtain rfl : g = false := by
            rcases Bool.eq_false_or_eq_true g with e | e
            · have := (t.good_iff.1 (HG.out.1 e)) k hk5
              rw [HX.out] at this
              unfold okP at this
              omega
            · exact e
          have d2 : decide (10000 < x) = true := by simpa using h2
          have d3 : decide (x > 10000) = true := by simpa using h2
          go_wp2_with fail
          go_ret
          exact ⟨rfl, hsm⟩
        · have d2 : decide (10000 < x) = false := by simpa using h2
          have d3 : decide (x > 10000) = false := by simpa using h2
          go_wp2_with fail
          refine ⟨⟨k + 1, by go_num, by omega, fun j hj => ?_, hsm⟩, by simp [intOf]; omega⟩
          by_cases hjk : j = k
          · subst hjk; rw [HX.out]; unfold okP; omega
          · exact HA.out j (by omega)
    · obtain rfl : k = 5 := by omega
      obtain rfl : g = true := HG.out.2 (t.good_iff.2 hall)
      have d0 : decide (((5 : Nat) : Int) < 5) = false := by decide
      clear hall hk5
      go_wp2_with fail
      go_ret
      exact ⟨rfl, hsm⟩

/-- Plain tells fewer pieces than bytes. -/
def PlainLeft (w w' : World) (z : Ending) (t : Tab) (s : List UInt8) (W : Int) : Prop := ∃ O, PlainTo t s (min W 1048576) s.length O ∧ BackLeft w w' z (obackL O)
def RepLeft (w w' : World) (z : Ending) (t : Tab) (s : List UInt8) (W : Int) : Prop := ∃ O, PlainTo t s (min W 1048576) s.length O ∧ BackLeft w w' z (repeatL (obackL O))

theorem repeatL_len (l : List Pk) : (repeatL l).length = l.length := repeatGo_length l _ _

set_option maxHeartbeats 4000000 in
set_option maxRecDepth 100000 in
theorem oparse_any (s : List UInt8) (W : Int) (t : Tab) (w : World) (ht : t.good) (hs : s.length ≤ 1000000) :
    Calls Tryz.prog 18 #[.string ⟨s.toArray⟩, i6 W, t.val] w fun z w' => RepLeft w w' z t s W := by
  have HP := hid (fun w0 => plain_any s W t w0 ht hs)
  have HT := hid ht
  unfold Tab.val at HP ⊢
  clear ht
  go_enter Tryz.func18, Tryz.ntmps18
  go_wp2_with (first
    | (go_at_call 14; refine (HP.out _).mono ?_; rintro z w1 ⟨O, hO, q, c, rfl, hp, hs1, hb⟩; have hln := (plain_says HT.out hs hO).2.2.2.2; have HR := hid (repeat_any q c (obackL O) w1 hp (by omega)); have HO := hid hO; have HB := hid hb; clear hO hb hln)
    | (go_at_call 8; refine HR.out.mono ?_; rintro z w2 ⟨q2, c2, rfl, hs2, hp2, hg2⟩))
  go_ret
  have hsm : Same w w1 := ((Keeps.refl (fun _ => False) w).alloc _).trans hs1
  exact ⟨O, HO.out, q2, c2, by rw [repeatL_len]; rfl, hp2, hsm.trans hs2, fun b hb => by have := hg2 b hb; have := hsm.size; omega⟩
end Go.Proofs.YtalopgbkjgjppaaGreatDoor

/- The walk of the statement OptimalLeast. -/
namespace Go.Proofs.YtalopgbkjgjppaaGreatDoor
open Go.RowKit Go.Cas

theorem val_len {s : List UInt8} {W : Int} {i d n : Nat} (h : Val s W i d n) : 1 ≤ i ∧ d ≤ i ∧ 2 ≤ n ∧ 1 ≤ d ∧ (i ≤ s.length → i + n ≤ s.length) := by
  have := aliN_le s (i - d) i
  obtain ⟨h1, h2, h3, h4, h5⟩ := h
  omega

/-- The cheapest way of "aaaa". -/
theorem sp16_aaaa {O : List Opt} (h : PlainTo commonT [97, 97, 97, 97] (min 9 1048576) 4 O) : obackL O = [⟨1, 0, 0, 97⟩, ⟨2, 1, 3, 0⟩] := by
  have hw := plain_ways commonT_good h
  have hl := h.length
  have hl4 : ([97, 97, 97, 97] : List UInt8).length = 4 := rfl
  rw [hl4] at hl
  have L1 : commonT.lit = 34 := rfl
  have ed : ∀ n d, 36 ≤ commonT.edge n d := by
    intro n d
    have := commonT.dist_ok commonT_good d
    have : 16 ≤ commonT.len n := by unfold Tab.len; split <;> decide
    have : commonT.mat = 20 := rfl
    unfold Tab.edge
    omega
  have e31 : commonT.edge 3 1 = 36 := by decide
  have f1 : oat O 1 = (34, litPk 97) := by
    obtain ⟨a, g1, g2, g3, g4⟩ := hw.kind 1 (by decide) (hw.set 1 (by decide) (by decide))
    rcases g4 with ⟨e, g4⟩ | ⟨d, n, e, hv, g4⟩
    · obtain rfl : a = 0 := by omega
      rw [g4, hw.start, L1]
      rfl
    · have := val_len hv; omega
  have v113 : Val [97, 97, 97, 97] (min 9 1048576) 1 1 3 := by
    refine ⟨by decide, by decide, by decide, by decide, by decide⟩
  have c4 := (hw.edge 1 1 3 (by decide) v113).2
  rw [f1, e31] at c4
  have f2 : 68 ≤ (oat O 2).1 := by
    obtain ⟨a, g1, g2, g3, g4⟩ := hw.kind 2 (by decide) (hw.set 2 (by decide) (by decide))
    rcases g4 with ⟨e, g4⟩ | ⟨d, n, e, hv, g4⟩
    · obtain rfl : a = 1 := by omega
      rw [g4, f1, L1]; decide
    · have := val_len hv; omega
  have f3 : 70 ≤ (oat O 3).1 := by
    obtain ⟨a, g1, g2, g3, g4⟩ := hw.kind 3 (by decide) (hw.set 3 (by decide) (by decide))
    rcases g4 with ⟨e, g4⟩ | ⟨d, n, e, hv, g4⟩
    · obtain rfl : a = 2 := by omega
      rw [g4, L1]; dsimp only; omega
    · have := val_len hv
      obtain rfl : a = 1 := by omega
      have := ed n d
      rw [g4, f1]; dsimp only; omega
  have f4 : (oat O 4).2 = matPk 1 3 := by
    obtain ⟨a, g1, g2, g3, g4⟩ := hw.kind 4 (by decide) (hw.set 4 (by decide) (by decide))
    rcases g4 with ⟨e, g4⟩ | ⟨d, n, e, hv, g4⟩
    · obtain rfl : a = 3 := by omega
      rw [g4, L1] at c4; dsimp only at c4; omega
    · have hvl := val_len hv
      rw [hl4] at hvl
      have h12 : a = 1 ∨ a = 2 := by omega
      rcases h12 with rfl | rfl
      · obtain rfl : n = 3 := by omega
        obtain rfl : d = 1 := by omega
        rw [g4]
      · have := ed n d
        rw [g4] at c4; dsimp only at c4; omega
  unfold obackL
  rw [hl]
  show (backGo O 5 ((5 : Int) - 1)).reverse = _
  unfold backGo
  rw [if_pos (by decide), show ((5 : Int) - 1).toNat = 4 from rfl, f4, show ((5 : Int) - 1 - max (matPk 1 3).l 1) = 1 from by decide]
  unfold backGo
  rw [if_pos (by decide), show ((1 : Int)).toNat = 1 from rfl, f1, show ((1 : Int) - max ((34 : Int), litPk 97).2.l 1) = 0 from by decide, backGo_stop _ _ _ (by decide)]
  rfl

theorem sp16_ab {O : List Opt} (h : PlainTo commonT [97, 98] (min 9 1048576) 2 O) : (obackL O).length = 2 := by
  have hw := plain_ways commonT_good h
  have hl := h.length
  have hl4 : ([97, 98] : List UInt8).length = 2 := rfl
  rw [hl4] at hl
  have f : ∀ j, 0 < j → j ≤ 2 → ∃ y, (oat O j).2 = litPk y := by
    intro j h0 h2
    obtain ⟨a, g1, g2, g3, g4⟩ := hw.kind j h0 (hw.set j h0 h2)
    rcases g4 with ⟨e, g4⟩ | ⟨d, n, e, hv, g4⟩
    · exact ⟨_, by rw [g4]⟩
    · have hvl := val_len hv
      rw [hl4] at hvl g3
      omega
  obtain ⟨y1, e1⟩ := f 1 (by decide) (by decide)
  obtain ⟨y2, e2⟩ := f 2 (by decide) (by decide)
  unfold obackL
  rw [hl]
  show (backGo O 3 ((3 : Int) - 1)).reverse.length = _
  unfold backGo
  rw [if_pos (by decide), show ((3 : Int) - 1).toNat = 2 from rfl, e2, show ((3 : Int) - 1 - max (litPk y2).l 1) = 1 from by unfold litPk; dsimp only; omega]
  unfold backGo
  rw [if_pos (by decide), show ((1 : Int)).toNat = 1 from rfl, e1, show ((1 : Int) - max (litPk y1).l 1) = 0 from by unfold litPk; dsimp only; omega, backGo_stop _ _ _ (by decide)]
  rfl

set_option maxHeartbeats 4000000 in
set_option maxRecDepth 100000 in
theorem speaks16_any (w : World) : Calls Tryz.prog 12 #[] w fun z w' => z = .returned (.bool true) ∧ Same w w' := by
  have HC := hid common_any
  have HP := hid (fun w0 => plain_any [97, 97, 97, 97] 9 commonT w0 commonT_good (by decide))
  have HQ := hid (fun w0 => oparse_any [97, 98] 9 commonT w0 commonT_good (by decide))
  unfold commonT Tab.val at HC
  unfold Tab.val at HP HQ
  go_enter Tryz.func12, Tryz.ntmps12
  go_wp2_with fail
  refine (HC.out _).mono ?_
  rintro z w1 ⟨rfl, hs1⟩
  go_wp2_with fail
  refine (HP.out _).mono ?_
  rintro z w2 ⟨O, hO, q, c, rfl, hp, hs2, hb⟩
  have HO := hid (sp16_aaaa hO)
  rw [HO.out] at hp
  rw [HO.out]
  obtain ⟨g, rfl⟩ := hp.ex (by decide)
  have a0 := hp.at 0 _ rfl
  have a1 := hp.at 1 _ rfl
  dsimp only at a0 a1
  have hl : ([⟨1, 0, 0, 97⟩, ⟨2, 1, 3, 0⟩] : List Pk).length = 2 := rfl
  rw [hl]
  clear hO hb hl hp HP
  go_wp2_with fail
  refine (HC.out _).mono ?_
  rintro z w3 ⟨rfl, hs3⟩
  go_wp2_with fail
  refine (HQ.out _).mono ?_
  rintro z w4 ⟨O2, hO2, q2, c2, rfl, hp2, hs4, hb2⟩
  have h2 : (repeatL (obackL O2)).length = 2 := by rw [repeatL_len]; exact sp16_ab hO2
  rw [h2]
  clear hp2 hO2 h2 hb2
  go_wp2_with fail
  go_ret
  exact ⟨rfl, ((hs1.trans hs2).trans hs3).trans hs4⟩

end Go.Proofs.YtalopgbkjgjppaaGreatDoor
