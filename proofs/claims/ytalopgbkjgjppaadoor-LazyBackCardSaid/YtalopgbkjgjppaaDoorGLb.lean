/- LazyBack: for any text, any window and any cut, the lazy parser's pieces tell the text, also through bytes and back, and the call returns true; no condition but what the card ties: the variable state.behind holds what the program's text lays. -/
import Derived.Test.YtalopgbkjgjppaaDoorGSy
import Derived.Test.YtalopgbkjgjppaaDoorEn
import Derived.Test.YtalopgbkjgjppaaDoorDc
import Derived.Test.YtalopgbkjgjppaaDoorGLp
import Derived.Test.YtalopgbkjgjppaaDoorGGy
import Derived.Test.YtalopgbkjgjppaaDoorGAp
import Derived.Test.YtalopgbkjgjppaaDoorGRow
import Derived.Test.YtalopgbkjgjppaaDoorCards
import Derived.Test.YtalopgbkjgjppaaDoorTie
import Derived.SevenTiedAt
/- The walk of law 14's LazyBack. -/
namespace Go.Proofs.YtalopgbkjgjppaaDoor
open Go.RowKit Go.Cas Go.Cas.Enc

set_option maxHeartbeats 8000000 in
set_option maxRecDepth 100000 in
theorem lback_any (s0 : List UInt8) (W C : Int) (w : World) (hs0 : s0.length ≤ maxLen) (hb : Behind w) :
    Calls Tryd.prog 4 #[.string ⟨s0.toArray⟩, i6 W, i6 C] w fun e w' => e = .returned (.bool true) ∧ Same w w' := by
  have HB := hid hb
  clear hb
  go_enter Tryd.func4, Tryd.ntmps4
  go_wp2_with fail
  refine (speaks14_any _).mono ?_
  rintro z w1 ⟨rfl, hs1⟩
  go_upto_region 3 with fail
  go_cut [0] (fun v wx => ∃ t : List UInt8, v = .string ⟨t.toArray⟩ ∧ t.length ≤ 400 ∧ Same w wx)
  case first =>
    go_wp2_with fail
    all_goals go_meet
    exact ⟨s0.take 400, by congr 1; apply ByteArray.ext; simp; omega, by simp; omega, hs1⟩
  case rest =>
    clear hs1
    obtain ⟨t, rfl, ht, hs1⟩ := hcut
    obtain ⟨w2, rfl⟩ : ∃ w2 : World, w2 = wc := ⟨_, rfl⟩
    have HG := hid (lparse_any t W C w2 (by omega))
    have hlen : (repeatL (lazyL t W C)).length ≤ 100000 := by
      rw [repeatL_length]
      have := lazyGo_length t W C t.length 0
      have e : (lazyL t W C).length = (lazyGo t W C t.length 0).length := rfl
      omega
    have hap := lazy_tells t W C (by omega)
    generalize repeatL (lazyL t W C) = RL at *
    obtain ⟨N, hN⟩ : ∃ N, t.length = N := ⟨_, rfl⟩
    have hbs : (⟨t.toArray⟩ : ByteArray).size = N := by rw [← hN]; rfl
    obtain ⟨hr, htl, hrd⟩ := coded_back (lc := 2) (lp := 1) (pb := 1) (R := t.length) false (by decide) (by decide) hap (Nat.le_refl _) (by omega) (by omega)
    rw [hN] at hap ht hrd
    have HAp := hid (fun (q : Option Addr) (cap : Nat) (w0 : World) (h : Pks w0 q cap RL) => apply_any q cap RL N w0 h (by omega) (by omega))
    rw [hap] at HAp
    dsimp only at HAp
    have HEn := hid (fun (q : Option Addr) (cap : Nat) (w0 : World) (h : Pks w0 q cap RL) (hb : Behind w0) => encode_any q cap RL 2 1 1 false w0 h hb (by decide) (by decide) hr hlen)
    generalize bytesL (Lay.of 2 1 1 16777216) RL false = BS at *
    have HDe := hid (fun (w0 : World) (hb : Behind w0) => decodeT_any BS 2 1 1 N N N RL false w0 hb (by decide) (by decide) (by omega) (by omega) (by rw [htl, hN]; simp) hrd (by omega))
    rw [htl] at HDe
    have HS1 := hid hs1
    have HN := hid hN
    clear hr hrd htl hap hlen hs1 hN
    go_wp2_with fail
    refine HG.out.mono ?_
    rintro z w3 ⟨q, c, rfl, hs3, hA⟩
    have hs4 := HS1.out.trans hs3
    have HA := hid (And.intro hA hs4)
    clear hA hs3 hs4
    go_wp2_with fail
    refine (HAp.out q c _ HA.out.1).mono ?_
    rintro z w4 ⟨rfl, hs5⟩
    have HA4 := hid (And.intro (HA.out.1.keeps hs5 (fun _ _ h => h)) (HA.out.2.trans hs5))
    clear hs5
    go_upto_region 7 with fail
    have hb5 : Blk (w4.alloc (.cells #[i6 2, i6 1, i6 1] 29)) w4.heap.size #[i6 2, i6 1, i6 1] 29 := (Blk.new _ _ _)
    have hs5 : Same w4 (w4.alloc (.cells #[i6 2, i6 1, i6 1] 29)) := (Keeps.refl _ _).alloc _
    generalize w4.alloc (.cells #[i6 2, i6 1, i6 1] 29) = w5 at hb5 hs5 ⊢
    generalize w4.heap.size = B0 at hb5 ⊢
    have a0 := hb5.cell 0
    have a1 := hb5.cell 1
    have a2 := hb5.cell 2
    simp only [List.getElem?_toArray, List.getElem?_cons_zero, List.getElem?_cons_succ] at a0 a1 a2
    have HA5 := hid (And.intro hb5 (And.intro (HA4.out.1.keeps hs5 (fun _ _ h => h)) (HA4.out.2.trans hs5)))
    clear hb5 hs5
    go_wp2_with fail
    refine (HEn.out q c _ HA5.out.2.1 (HB.out.keeps HA5.out.2.2 (fun h => h))).mono ?_
    rintro z w6 ⟨rfl, hs6⟩
    have hb6 := HA5.out.1.keeps hs6 (fun h => h)
    have b0 := hb6.cell 0
    have b1 := hb6.cell 1
    have b2 := hb6.cell 2
    simp only [List.getElem?_toArray, List.getElem?_cons_zero, List.getElem?_cons_succ] at b0 b1 b2
    have HS6 := hid (HA5.out.2.2.trans hs6)
    clear hb6 hs6 a0 a1 a2
    go_wp2_with fail
    refine (HDe.out _ (HB.out.keeps HS6.out (fun h => h))).mono ?_
    rintro z w7 ⟨rfl, hs7⟩
    have HS7 := hid (HS6.out.trans hs7)
    clear hs7
    go_wp2_with fail
    go_ret
    exact ⟨by simp, HS7.out⟩
end Go.Proofs.YtalopgbkjgjppaaDoor

namespace Go.Proofs.YtalopgbkjgjppaaDoor
open Go Go.ChangeShapes Go.WideShapes Go.ChangeAt Go.RowKit Go.Cas

theorem Tryd.ownY : ownKnob Tryd.prog.godebug = none := by kernel_rfl
theorem Tryd.laidOutY : laidOutB Tryd.prog = true := by kernel_rfl

set_option maxRecDepth 100000 in
theorem lazyBack_lifted (os : Os) (started : os.Started) (H : Type) (enc : TypeId × Value → H) :
    ReturnsInHanded {} Tryd.checked os 4 .any (fun w args => (Rows.lazyBackSpec.pre enc Tryd.prog Tryd.f4 [] false w args ∧ laidMetH Tryd.prog [("cassone/state.behind", Rows.laid_cassone_state_behind)] w) ∧ sizedMet enc Tryd.prog Tryd.f4 (OpenSpec.ofChange Rows.lazyBackSpec) false w args)
      (Rows.lazyBackSpec.post enc Tryd.prog Tryd.f4 false true false false) := by
  refine returnsInHanded_of_change_and (C := Tryd.checked) (X := fun w _ => laidMetH Tryd.prog [("cassone/state.behind", Rows.laid_cassone_state_behind)] w) (fun _ _ _ hh h => h.of_heap hh) Tryd.ownY started (by kernel_rfl) Tryd.func4
    (ChangeSpec.witness_shaped (enc := enc) (C := Tryd.checked) (os := os) (X := fun w _ => laidMetH Tryd.prog [("cassone/state.behind", Rows.laid_cassone_state_behind)] w) false (World.doorLaid Tryd.prog 17 os) #[.string ⟨#[]⟩, .int .i64 0, .int .i64 0] 8 rfl (World.shaped_of_RefB (by kernel_rfl) (by kernel_rfl)) (by kernel_rfl) (by kernel_rfl) (by kernel_rfl) (door_met os _)) ?_
  intro W base args ds gs before hval0 hW _ _ hLaid _
  have hval : ∀ (j : Nat) t v, Tryd.f4.params[j]? = some t → args[j]? = some v → Value.okWide Tryd.prog W .any base t v := hval0
  have hW' := hW
  obtain ⟨p, q, hA0, hV, rfl, hfz, hnd⟩ := hW
  have hA : DataW.TrodAll enc Tryd.prog W 0 (fun _ => true) true Tryd.f4.params.toList args.toList ds p := hA0
  rw [Tryd.params4] at hA hval
  obtain ⟨v0, v1, v2, d0, d1, d2, p0, p1, p2, rfl, rfl, rfl, h0, h1, h2⟩ := trodAll_three hA
  obtain ⟨rfl, rfl⟩ := trodVars_none hV
  obtain ⟨s, rfl, _, _, hs⟩ := Go.ChangeMaps.open_string Tryd.underlying9 (hval 0 9 v0 rfl rfl) h0
  obtain ⟨x, rfl, _, _, _⟩ := open_int Tryd.underlying3 (hval 1 3 v1 rfl rfl) h1
  obtain ⟨y, rfl, _, _, _⟩ := open_int Tryd.underlying3 (hval 2 3 v2 rfl rfl) h2
  have hd : s = ⟨s.data.toList.toArray⟩ := by apply ByteArray.ext; simp
  have H : Calls Tryd.prog 4 #[.string s, i6 x, i6 y] W fun e w' => e = .returned (.bool true) ∧ Same W w' := by
    rw [hd]
    exact lback_any s.data.toList x y W (by simpa using hs) (behind_of_laid hLaid)
  refine H.mono fun z W' ⟨he, hs⟩ => ?_
  subst he
  exact ⟨_, rfl, law_post Tryd.laidOutY rfl (by rw [Tryd.params4]; intro t ht; simp at ht; rcases ht with rfl | rfl | rfl <;> exact ⟨by kernel_rfl, of_decide_eq_true (by kernel_rfl)⟩) 4 (by kernel_rfl) Tryd.underlying4 hW' rfl hs⟩

theorem lazyBack_row : Rows.LazyBackSaid :=
  OpenClaim.holds_of_wide 4 Tryd.f4 rfl rfl rfl rfl rfl rfl rfl ⟨rfl, rfl, rfl, rfl, rfl⟩ rfl rfl rfl rfl rfl (by kernel_rfl) Tryd.func4 (by kernel_rfl)
    (of_decide_eq_true (by kernel_rfl)) (by unfold Func.isWrapper; first | (rw [if_pos (by decide +kernel)]; kernel_rfl) | (rw [if_neg (by decide +kernel)]; exact ⟨rfl, rfl⟩))
    (fun os started H enc _ => lazyBack_lifted os started H enc)

theorem lazyBack_holds : Rows.LazyBackCardSaid :=
  Claim7.holds_tied_plain_at .later [] [.data] true Rows.lazyBackCard.stood.harness false
    lazyBack_row (fun _ h => by cases h) (by kernel_rfl) (fun _ h => by cases h) lazyBack_row_tie rfl ⟨rfl, rfl⟩ (by kernel_rfl) rfl
    (fun f fn hf hfn => by
      obtain rfl : f = 4 := Option.some.inj ((show Tryd.prog.funcNamed "cassone/cassonelaw14.LazyBack" = some 4 by kernel_rfl).symm.trans hf) |>.symm
      obtain rfl : fn = Tryd.f4 := (Option.some.inj (Tryd.func4.symm.trans hfn)).symm
      exact ⟨by kernel_rfl, fun j t ht => by
        rw [Tryd.params4] at ht
        have hm : t ∈ [9, 3, 3] := by simpa using Array.mem_of_getElem? ht
        have hall : ([9, 3, 3].all fun u => !Tryd.prog.wantsStandIn u) = true := by kernel_rfl
        exact (show Tryd.prog.wantsStandIn t = false by simpa using List.all_eq_true.1 hall t hm)⟩)
    (by kernel_rfl)
#print axioms lazyBack_holds
end Go.Proofs.YtalopgbkjgjppaaDoor
